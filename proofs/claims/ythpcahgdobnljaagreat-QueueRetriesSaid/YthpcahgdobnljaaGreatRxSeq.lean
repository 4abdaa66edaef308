/- RX, part 17: ranges over functions: rounds, yields, the statement's end. -/
import Derived.Test.YthpcahgdobnljaaGreatRxMem
import Derived.RangeFuncRecord
import Derived.RangeFuncLeaves
import Derived.RangeFuncCalls
import Derived.TacticsIn
set_option autoImplicit false
set_option linter.unusedVariables false
set_option linter.unusedSimpArgs false
namespace Go.RX
open Go Go.RowKit

/-- A range's record. -/
abbrev loopR (L : Nat) (r : Loop) : Res := .hp fun h => h = one L (.loop r)

theorem Mod.loop_at {hfs : List PH} {Rs : List Res} {w : World} {i L : Nat} {r : Loop} (hm : Mod hfs Rs w) (hi : Rs[i]? = some (loopR L r)) : w.heap[L]? = some (.loop r) := by
  obtain ⟨h, h1, h2⟩ := hm.get hi
  have h1' : h = one L (.loop r) := h1
  subst h1'
  exact h2 _ _ (one_same _ _)

theorem Mod.setLoop {hfs : List PH} {Rs : List Res} {w : World} {i L : Nat} {r : Loop} (r' : Loop) (hm : Mod hfs Rs w) (hi : Rs[i]? = some (loopR L r)) : Mod hfs (Rs.set i (loopR L r')) (w.putObj L (.loop r')) :=
  hm.turn hi fun h h1 hs => by
    have h1' : h = one L (.loop r) := h1
    subst h1'
    have hb := hs _ _ (one_same _ _)
    refine ⟨one L (.loop r'), rfl, Sub.one (MapKept.heap_set hb).1, fun n _ hn => ?_⟩
    have hne : n ≠ L := fun e => by subst e; rw [one_same] at hn; cases hn
    exact ⟨(MapKept.heap_set hb).2 n hne, one_ne _ hne⟩

theorem Oth.put (w : World) (b : Nat) (o : Obj) : Oth w (w.putObj b o) := ⟨rfl, rfl, rfl, by simp [World.putObj], Nat.le_refl _⟩

/-! ### a list of operations, inside a fence -/
def fenceAt : Option Nat → Fence
  | none => Fence.wide
  | some l => Fence.wide.inRound l

theorem fenceAt_fn (ro : Option Nat) (f : Nat) : (fenceAt ro).fn f := by cases ro <;> trivial

theorem callsIn_at {P : Program} (ro : Option Nat) {n : Nat} {f : FuncId} {args : Array Value} {w : World} {R : Ending → World → Prop} (h : Calls P f args w R) : CallsIn (fenceAt ro) n P f args w R := by
  cases ro with
  | none => exact callsIn_wide.2 h
  | some l => exact CallsIn.inRound l (callsIn_wide.2 h)

theorem rowsIn_at {P : Program} (ro : Option Nat) {n : Nat} {row : String} {args : Array Value} {w : World} {R : Value → World → Prop} (h : Rows P row args w R) : RowsIn (fenceAt ro) n P row args w R := by
  intro c cs _
  obtain ⟨v, w', h1, h2⟩ := h c cs
  cases ro with
  | none => exact ⟨v, w', h1, stepsIn_wide.2 h2⟩
  | some l => exact ⟨v, w', h1, stepsIn_wide.2 h2⟩

def isDefer : Op → Bool
  | .defer _ => true
  | _ => false

/-- What a list of operations comes to, in a frame that may be a round's. -/
def OpsTo (E : Env) (ro : Option Nat) (ops : Array Oper) (rest : List Oper) (l : L) (Rs : List Res) (K : L → List Res → Prop) : Prop :=
  ∀ Q : Exit → Act → World → Prop, (∀ l' Rs' a w, K l' Rs' → Fr E.N a l' → Mod E.hfs Rs' w → Oth E.w0 w → Q .normal a w) →
    ∀ a w, Fr E.N a l → Mod E.hfs Rs w → Oth E.w0 w → wpListIn (fenceAt ro) 9 E.P ops Q rest a w

section
variable {E : Env} {ro : Option Nat} {ops : Array Oper} {rest : List Oper} {l : L} {Rs : List Res} {K : L → List Res → Prop} {o : Oper}

theorem OpsTo_nil (h : K l Rs) : OpsTo E ro ops [] l Rs K := fun Q hQ a w hf hm hio => hQ l Rs a w h hf hm hio

theorem OpsTo_cons (hg : wantB ops.toList l o = true) (hd : isDefer o.op = false) (h : OpTo E l Rs o fun l' Rs' => OpsTo E ro ops rest l' Rs' K) : OpsTo E ro ops (o :: rest) l Rs K := by
  intro Q hQ a w hf hm hio
  have h1 := h a w hf hm hio
  unfold wpListIn
  rw [if_pos (wantB_sound hf hg)]
  refine ⟨fun f _ => fenceAt_fn ro f, ?_⟩
  have hsem : o.semAt (fenceAt ro).round a.eval = execOp a.eval o := Oper.semAt_eq _ _ _ fun c e => by rw [e] at hd; cases hd
  rw [hsem]
  unfold Oper.wp at h1
  generalize (execOp a.eval o).run E.P w = r at h1 ⊢
  have go : ∀ a' w', (∃ l' Rs', OpsTo E ro ops rest l' Rs' K ∧ Fr E.N a' l' ∧ Mod E.hfs Rs' w' ∧ Oth E.w0 w') → wpListIn (fenceAt ro) 9 E.P ops Q rest a' w' := fun a' w' ⟨l', Rs', k1, k2, k3, k4⟩ => k1 Q hQ a' w' k2 k3 k4
  cases r with
  | halt x w' => cases x <;> simp only [Oper.upon] at h1
  | ok n w' =>
    cases n <;> simp only [Oper.upon] at h1 <;> simp only [Oper.uponIn]
    case value v => exact go _ _ h1
    case skip => exact go _ _ h1
    case defer d => exact go _ _ h1
    case enter f args =>
      refine ⟨fun hx => ?_, callsIn_at ro (h1.mono fun e w'' he => ?_)⟩
      · cases ro <;> cases hx
      · cases e with
        | returned v => exact go _ _ he
        | panicked c => exact he.elim
        | outgrown => obtain ⟨_, _, he⟩ := he; exact he.elim
    case row r args =>
      refine ⟨fun hx => ?_, rowsIn_at ro (h1.mono fun v w'' he => go _ _ he)⟩
      cases ro <;> cases hx

/-- A call of yield: a round. -/
theorem OpsTo_yield {c : Call} {x : Operand} {Lp : Nat} {vs : List Value} {Qc : Value → List Res → Prop} (ho : o.op = .call c) (hc : c.callee = .value x) (hx : ev l x = some (.v (.func (.yield Lp) #[] #[]))) (hv : evs l c.args.toList = some vs) (hg : wantB ops.toList l o = true)
    (hround : ∀ w, Mod E.hfs Rs w → Oth E.w0 w → ∃ r : Loop, w.heap[Lp]? = some (.loop r) ∧ vs.length = r.params.size ∧
      RoundIn Fence.wide 8 E.P Lp r.fn ((r.params.zip vs.toArray).foldl (fun tmps (t, a) => tmps.setIfInBounds t a) r.tmps) r.assign r.body w fun e w' => ∃ v Rs', e = .returned v ∧ Qc v Rs' ∧ Mod E.hfs Rs' w' ∧ Oth w w')
    (hK : ∀ v Rs', Qc v Rs' → setd E.N o.dst (.v v) l fun l' => OpsTo E none ops rest l' Rs' K) : OpsTo E none ops (o :: rest) l Rs K := by
  intro Q hQ a w hf hm hio
  obtain ⟨r, h1, h2, h3⟩ := hround w hm hio
  unfold wpListIn
  rw [if_pos (wantB_sound hf hg)]
  refine ⟨fun f _ => trivial, ?_⟩
  have hsem : o.semAt (fenceAt none).round a.eval = execOp a.eval o := Oper.semAt_eq _ _ _ fun c e => by rw [e] at ho; cases ho
  rw [hsem]
  have hargs : c.args.map a.eval = vs.toArray := by
    apply Array.toList_inj.1
    simp [evs_sound hf hv]
  have hrun : (execOp a.eval o).run E.P w = .ok (.round Lp r.fn ((r.params.zip vs.toArray).foldl (fun tmps (t, a) => tmps.setIfInBounds t a) r.tmps) r.assign r.body) w := by
    have hy := run_yield (P := E.P) (args := vs.toArray) h1 (by simpa using h2)
    simp only [execOp, ho, Sem.run_bind, resolve, hc, hargs, ev_sound hf hx, SV.val, Deferred.ofValue, Sem.run_pure, Result.andThen_ok, invoke]
    simpa using hy
  rw [hrun]
  simp only [Oper.uponIn]
  refine ⟨fun hx => (by cases hx), h3.mono fun e w' he => ?_⟩
  obtain ⟨v, Rs', rfl, k1, k2, k3⟩ := he
  obtain ⟨l', m1, m2⟩ := setd_sound (hK v Rs' k1) hf
  exact m1 Q hQ _ w' m2 k2 (hio.trans k3)

/-- A statement of which an operation is a call of yield. -/
theorem Go_regionIn {id : Nat} {k : List KI} (h : OpsTo E none ops ops.toList l Rs fun l' Rs' => Go E k l' Rs') : Go E (.code (.region id ops false) :: k) l Rs := by
  intro a w hf hm hio
  show (Code.region id ops false).wp E.P _ a w
  exact wpIn_wide.1 (wpIn_region_list (h _ (fun l' Rs' a w h1 h2 h3 h4 => h1 a w h2 h3 h4) a w hf hm hio))
end

/-! ### a round, out of its body -/
theorem roundIn_regions {P : Program} {tab : Tab} {N : Nat} {hfs : List PH} {w : World} {Rs : List Res} {i Lp : Nat} {r : Loop} {tmps : Array Value} {l : L} {f : FuncId} {ia ib ic : Nat} {opsA opsB : Array Oper} {KR : List Res → Prop}
    (hm : Mod hfs Rs w) (hi : Rs[i]? = some (loopR Lp r)) (hst : r.state = .ready) (hfr : Fr N { tmps := tmps, defers := [] } l)
    (hA : OpsTo { P := P, tab := tab, N := N, res := [], hfs := hfs, w0 := w, post := fun _ _ => False } (some Lp) opsA opsA.toList l Rs fun l1 Rs1 => Rs1[i]? = some (loopR Lp r) ∧
      OpsTo { P := P, tab := tab, N := N, res := [], hfs := hfs, w0 := w, post := fun _ _ => False } (some Lp) opsB opsB.toList l1 (Rs1.set i (loopR Lp { r with state := .busy })) fun l2 Rs2 => ∃ j r2, Rs2[j]? = some (loopR Lp r2) ∧ KR (Rs2.set j (loopR Lp { r2 with state := .ready, pending := none }))) :
    RoundIn Fence.wide 8 P Lp f tmps (.region ia opsA false) (.block ib (.region ic opsB false)) w fun e w' => ∃ v Rs', e = .returned v ∧ (v = .bool true ∧ KR Rs') ∧ Mod hfs Rs' w' ∧ Oth w w' := by
  have key : ∀ {F : Fence} {l : Nat} {f : FuncId} {tmps : Array Value} {assign body : Code} {w : World} {R : Ending → World → Prop} (hF : F.fn f),
      assign.wpIn (F.inRound l) 9 P (Exit.then (fun a₁ w₁ => ∃ w₂, (Instr.beginRound l).run P w₁ = .ok () w₂ ∧ body.wpIn (F.inRound l) 9 P (roundPost P l R) a₁ w₂) (fun _ _ _ => False)) { tmps := tmps, defers := [] } w → RoundIn F 9 P l f tmps assign body w R := fun hF h => roundIn_of_wpIn hF h
  have := key (F := Fence.wide) (l := Lp) (f := f) (tmps := tmps) (assign := .region ia opsA false) (body := .block ib (.region ic opsB false)) (w := w) (R := fun e w' => ∃ v Rs', e = .returned v ∧ (v = .bool true ∧ KR Rs') ∧ Mod hfs Rs' w' ∧ Oth w w') trivial ?_
  · exact ⟨this.1, fun c cs _ => this.2 c cs (room_wide _)⟩
  refine wpIn_region_list (hA _ (fun l1 Rs1 a1 w1 hK h1 h2 h3 => ?_) _ w hfr hm (Oth.refl w))
  obtain ⟨hi1, hB⟩ := hK
  refine ⟨_, run_beginRound (h2.loop_at hi1) hst, wpIn_block (wpIn_region_list (hB _ (fun l2 Rs2 a2 w2 hK2 g1 g2 g3 => ?_) a1 _ h1 (h2.setLoop _ hi1) (h3.trans (Oth.put _ _ _))))⟩
  obtain ⟨j, r2, hj, hKR⟩ := hK2
  exact ⟨_, _, run_endRound none (g2.loop_at hj), _, _, rfl, ⟨rfl, hKR⟩, g2.setLoop _ hj, g3.trans (Oth.put _ _ _)⟩

/-- What a range's record and what belongs to it do at each element. -/
def RoundsTo {κ : Type} (P : Program) (Lp M : Nat) (kE : κ → Value) (J : List κ → List Res → Prop) : Prop := ∀ (hfs : List PH) (pre : List κ) (Rj : List Res) (w : World) (k : κ), pre.length < M → J pre Rj → Mod hfs Rj w →
  ∃ r : Loop, w.heap[Lp]? = some (.loop r) ∧ 1 = r.params.size ∧ RoundIn Fence.wide 8 P Lp r.fn ((r.params.zip #[kE k]).foldl (fun tmps (t, a) => tmps.setIfInBounds t a) r.tmps) r.assign r.body w fun e w' => ∃ v Rs', e = .returned v ∧ (v = .bool true ∧ J (pre ++ [k]) Rs') ∧ Mod hfs Rs' w' ∧ Oth w w'

/-! ### the statement, and the function's end -/
theorem Fr.args {N : Nat} {args : List Value} (hle : args.length ≤ N) : Fr N { tmps := args.toArray ++ Array.replicate (N - args.toArray.size) undef, defers := [] } (argL args 0) := by
  refine ⟨rfl, by simp; omega, fun t s e => ?_⟩
  obtain ⟨_, h2⟩ := look_argL args 0 t s e
  have hlt : t < args.length := by
    have := (List.getElem?_eq_some_iff.1 h2).1
    simpa using this
  rw [Array.getElem?_append_left (by simpa using hlt)]
  simpa using h2

/-- A block of deferred calls, of none. -/
abbrev defR (D : Nat) : Res := .hp fun h => h = one D (.deferred (some []))

theorem Mod.def_at {hfs : List PH} {Rs : List Res} {w : World} {i D : Nat} (hm : Mod hfs Rs w) (hi : Rs[i]? = some (defR D)) : w.heap[D]? = some (.deferred (some [])) := by
  obtain ⟨h, h1, h2⟩ := hm.get hi
  have h1' : h = one D (.deferred (some [])) := h1
  subst h1'
  exact h2 _ _ (one_same _ _)

theorem Mod.newObj {hfs : List PH} {Rs : List Res} {w : World} (hm : Mod hfs Rs w) (o : Obj) : Mod hfs (.hp (fun h => h = one w.heap.size o) :: Rs) (w.alloc o) :=
  hm.add (h := one w.heap.size o) (fun n hn => (MapKept.heap_alloc w o).2 n hn) rfl (fun n hn => one_ne _ (Nat.ne_of_lt hn)) (Sub.one (MapKept.heap_alloc w o).1)

/-- Of a dropped block any turn is let by. -/
theorem Mod.putDropped {hfs : List PH} {Rs : List Res} {w : World} {D : Nat} (o : Obj) (hm : Mod hfs (defR D :: Rs) w) : Mod hfs Rs (w.putObj D o) := by
  have := hm.turn (i := 0) (R := defR D) (R' := .hp fun h => h = one D o) (w' := w.putObj D o) rfl fun h h1 hs => by
    have h1' : h = one D (.deferred (some [])) := h1
    subst h1'
    have hb := hs _ _ (one_same _ _)
    refine ⟨one D o, rfl, Sub.one (MapKept.heap_set hb).1, fun n _ hn => ?_⟩
    have hne : n ≠ D := fun e => by subst e; rw [one_same] at hn; cases hn
    exact ⟨(MapKept.heap_set hb).2 n hne, one_ne _ hne⟩
  exact this.drop (a := [_])

/-- The one call of a range over a function. -/
theorem run_rangeCall {P : Program} {a : Act} {g : Operand} {f : FuncId} {cap : Array Value} {Lp : Nat} {w : World} (hx : a.eval g = .func (.func f) #[] cap) (hf : callable P f = true) :
    ∃ d, (resolve a.eval (rangeCall g Lp) 0).run P w = .ok d w ∧ (invoke d.target d.args).run P w = .ok (.enter f (#[.func (.yield Lp) #[] #[]] ++ cap)) w := by
  refine ⟨{ target := .fn (.func f) cap, args := #[.func (.yield Lp) #[] #[]] }, ?_, ?_⟩
  · have e : ∀ v, a.eval (.const v) = v := fun _ => rfl
    simp [resolve, rangeCall, hx, e, Deferred.ofValue]
  · simp only [invoke]
    exact run_callFunc hf _ w

theorem wpListIn_val {F : Fence} {n : Nat} {P : Program} {ops : Array Oper} {Q : Exit → Act → World → Prop} {a : Act} {w w' : World} {rest : List Oper} {o : Oper} {v : Value} (hF : ∀ f, F.fn f) (hg : o.guard = none) (hd : isDefer o.op = false) (hrun : (execOp a.eval o).run P w = .ok (.value v) w')
    (h : wpListIn F n P ops Q rest (a.put o.dst v) w') : wpListIn F n P ops Q (o :: rest) a w := by
  refine wpListIn_plain hg fun K hK => ⟨fun f _ => hF f, ?_⟩
  have hsem : o.semAt F.round a.eval = execOp a.eval o := Oper.semAt_eq _ _ _ fun c e => by rw [e] at hd; cases hd
  rw [hsem, hrun]
  exact hK _ _ h

theorem wpListIn_val0 {F : Fence} {n : Nat} {P : Program} {ops : Array Oper} {Q : Exit → Act → World → Prop} {a : Act} {w : World} {rest : List Oper} {o : Oper} {v : Value} (hF : ∀ f, F.fn f) (hg : o.guard = none) (hd : isDefer o.op = false) (hrun : (execOp a.eval o).run P w = .ok (.value v) w)
    (h : wpListIn F n P ops Q rest (a.put o.dst v) w) : wpListIn F n P ops Q (o :: rest) a w := wpListIn_val hF hg hd hrun h

/-- A frame by slots, whatever calls it has put off. -/
theorem Fr.eval {N : Nat} {a : Act} {l : L} (ds : List Deferred) (h : Fr N a l) {x : Operand} {s : SV} (e : ev l x = some s) : ({ a with defers := ds } : Act).eval x = s.val := by
  have := ev_sound h e
  cases x <;> exact this

theorem LeavesIn_end {F : Fence} {n : Nat} {P : Program} {fn : Func} {tmps : Array Value} {R : Ending → World → Prop} {w : World} {v : Value} (h : (results fn tmps).run P w = .ok v w) (hR : R (.returned v) w) : LeavesInM F n P fn tmps R [] .returning w :=
  ⟨v, h, hR⟩

/-- The two parts of a range over a function that stands third in a function's body. -/
def loopParts : Option Code → Code × Code
  | some (.seq _ (.seq (.seq _ (.block _ (.rangeFunc _ _ a b))) _)) => (a, b)
  | _ => (.skip, .skip)

/-- That range's record, ready, as it is laid. -/
def loopOf (body : Option Code) (ps : Array Tmp) (fn : FuncId) (tmps : Array Value) (D : Nat) : Loop :=
  { state := .ready, pending := none, fn := fn, tmps := tmps, params := ps, assign := (loopParts body).1, body := (loopParts body).2, defers := D }
end Go.RX
