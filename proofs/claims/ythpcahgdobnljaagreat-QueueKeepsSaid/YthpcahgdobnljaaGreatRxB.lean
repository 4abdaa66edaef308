/- RX, second part: laws for rows, maps, calls, loops, sorting. -/
import Derived.Test.YthpcahgdobnljaaGreatRxA
import Derived.KernelRfl
import Derived.Laws.AppendOwn
import Derived.MapKept
import Derived.OpenShut
import Derived.SizedLaws
import Derived.Carry
import Derived.JoinedOf
import Derived.ProofKit
import Derived.Laws.StructEq
import Derived.Laws.BytesString
import Derived.Laws.MakeOwn
import Derived.Maps.RangeRun
import Derived.RangeFuncRecord
import Derived.RangeFuncLeaves
import Derived.RangeFuncCalls
import Derived.TacticsIn
/- RX, part 9: entering a function; calls; loops; what is read and written elsewhere. -/
set_option autoImplicit false
set_option linter.unusedVariables false
set_option linter.unusedSimpArgs false
namespace Go.RX
open Go Go.RowKit

/-! ### entering -/
def argL : List Value → Nat → L
  | [], _ => []
  | v :: r, i => (i, .v v) :: argL r (i + 1)

theorem look_argL : ∀ (vs : List Value) (i t : Nat) (s : SV), look (argL vs i) t = some s → i ≤ t ∧ vs[t - i]? = some s.val
  | [], _, _, _, h => by cases h
  | v :: r, i, t, s, h => by
    simp only [argL, look] at h
    split at h
    · rename_i hb
      have := Nat.eq_of_beq_eq_true hb
      subst this
      cases h
      simp [SV.val]
    · obtain ⟨h1, h2⟩ := look_argL r (i + 1) t s h
      refine ⟨by omega, ?_⟩
      rw [show t - i = (t - (i + 1)) + 1 from by omega]
      simpa using h2

theorem enter {P : Program} {tab : Tab} {N : Nat} {res : List ResultVar} {post : Value → List Res → Prop} {f : FuncId} {fn : Func} {c : Code} (hf : P.funcs[f]? = some fn) (hb : fn.body = some c) (hN : fn.ntmps = N)
    (hres : fn.results.toList = res) {args : List Value} (hlen : Nat.ble args.length N = true) {w0 : World} {hfs : List PH} {Rs : List Res} (hm : Mod hfs Rs w0)
    (hgo : Go { P := P, tab := tab, N := N, res := res, hfs := hfs, w0 := w0, post := post } [.code c] (argL args 0) Rs) :
    Calls P f args.toArray w0 fun e w' => ∃ v Rs', e = .returned v ∧ post v Rs' ∧ Mod hfs Rs' w' ∧ Oth w0 w' := by
  refine calls_of_wp hf hb ?_
  have hle := Nat.le_of_ble_eq_true hlen
  have hfr : Fr N { tmps := args.toArray ++ Array.replicate (fn.ntmps - args.toArray.size) undef, defers := [] } (argL args 0) := by
    refine ⟨rfl, by simp [hN]; omega, fun t s e => ?_⟩
    obtain ⟨_, h2⟩ := look_argL args 0 t s e
    have hlt : t < args.length := by
      have := (List.getElem?_eq_some_iff.1 h2).1
      simpa using this
    rw [Array.getElem?_append_left (by simpa using hlt)]
    simpa using h2
  have h := hgo _ w0 hfr hm (Oth.refl w0)
  refine wp_mono h fun e a w hq => ?_
  cases e with
  | normal =>
    obtain ⟨h1, h2⟩ := hq
    obtain ⟨v, h3, h4⟩ := h2 fn hres
    exact ⟨h1, v, h3, h4⟩
  | ret =>
    obtain ⟨h1, h2⟩ := hq
    obtain ⟨v, h3, h4⟩ := h2 fn hres
    exact ⟨h1, v, h3, h4⟩
  | _ => exact hq.elim

/-! ### weakening -/
def subL : L → L → Prop
  | [], _ => True
  | (t, s) :: r, l => match look l t with
    | some s0 => s0.val = s.val ∧ subL r l
    | none => False

theorem subL_sound : ∀ {l' l : L} {N : Nat} {a : Act}, subL l' l → Fr N a l → Fr N a l'
  | [], l, N, a, _, hf => ⟨hf.defers, hf.size, fun t s e => by cases e⟩
  | (t, s) :: r, l, N, a, h, hf => by
    simp only [subL] at h
    split at h
    · rename_i s0 hs
      have hr := subL_sound h.2 hf
      refine ⟨hf.defers, hf.size, fun t' s' e => ?_⟩
      simp only [look] at e
      split at e
      · rename_i hb
        have := Nat.eq_of_beq_eq_true hb
        subst this
        cases e
        rw [← h.1]
        exact hf.at_ t s0 hs
      · exact hr.at_ t' s' e
    · exact h.elim

theorem Go_mono {E : Env} {k : List KI} {l l' : L} {Rs Rs' : List Res} (hl : subL l' l) (hR : ∀ w, Mod E.hfs Rs w → Mod E.hfs Rs' w) (h : Go E k l' Rs') : Go E k l Rs :=
  fun a w hf hm hio => h a w (subL_sound hl hf) (hR w hm) hio

/-- Facts of the world, for the computation to lean on. -/
theorem Go_with {E : Env} {k : List KI} {l : L} {Rs : List Res} (p : Prop) (hp : ∀ w, Mod E.hfs Rs w → Oth E.w0 w → p) (h : p → Go E k l Rs) : Go E k l Rs :=
  fun a w hf hm hio => h (hp w hm hio) a w hf hm hio

/-! ### loops -/
theorem Go_loop {E : Env} {k : List KI} {l : L} {Rs : List Res} {c : Code} {σ : Type} (Lf : σ → L) (Rf : σ → List Res) (Inv : σ → Prop) (μ : σ → Nat) (s0 : σ) (hI : Inv s0) (hl : subL (Lf s0) l)
    (hR : ∀ w, Mod E.hfs Rs w → Mod E.hfs (Rf s0) w)
    (round : ∀ s, Inv s → Go E (.code c :: .fin (fun a w => ∃ s', Inv s' ∧ μ s' < μ s ∧ Fr E.N a (Lf s') ∧ Mod E.hfs (Rf s') w ∧ Oth E.w0 w) :: k) (Lf s) (Rf s)) : Go E (.code (.loop c) :: k) l Rs := by
  intro a w hf hm hio
  show (Code.loop c).wp E.P _ a w
  -- the state that the frame is at, chosen at the round's begin
  let I : Act → World → Prop := fun a w => ∃ s, Inv s ∧ Fr E.N a (Lf s) ∧ Mod E.hfs (Rf s) w ∧ Oth E.w0 w
  intro b kk cs
  have key : ∀ n (s : σ) a w, μ s = n → Inv s → Fr E.N a (Lf s) → Mod E.hfs (Rf s) w → Oth E.w0 w →
      ∃ e a' w', Kpost E.P E.Q k e a' w' ∧ Arrives E.P (lone (b.at a (.code c :: .inLoop c :: kk)) cs w) b kk cs e a' w' := by
    intro n
    induction n using Nat.strongRecOn with
    | _ n ih =>
      intro s a w hn hI hf hm hio
      have hr := round s hI a w hf hm hio
      obtain ⟨e, a₁, w₁, hq, harr⟩ := hr b (.inLoop c :: kk) cs
      cases e with
      | normal =>
        obtain ⟨s', h1, h2, h3, h4, h5⟩ := hq
        obtain ⟨e₂, a₂, w₂, hq₂, harr₂⟩ := ih (μ s') (hn ▸ h2) s' a₁ w₁ rfl h1 h3 h4 h5
        exact ⟨e₂, a₂, w₂, hq₂, .of_steps (Steps.trans harr (.one step_inLoop)) harr₂⟩
      | exit id => exact ⟨_, a₁, w₁, hq, .pass (x := .inLoop c) rfl (fun _ _ => .inl (by simp)) harr⟩
      | goto l => exact ⟨_, a₁, w₁, hq, .pass (x := .inLoop c) rfl (fun _ _ => .inl (by simp)) harr⟩
      | ret => exact ⟨_, a₁, w₁, hq, .pass (x := .inLoop c) rfl (fun _ _ => .inl (by simp)) harr⟩
      | panic ch => exact ⟨_, a₁, w₁, hq, .pass (x := .inLoop c) rfl (fun _ _ => .inl (by simp)) harr⟩
      | outgrown => exact ⟨_, a₁, w₁, hq, .pass (x := .inLoop c) rfl (fun _ _ => .inl (by simp)) harr⟩
  obtain ⟨e, a', w', hq, harr⟩ := key _ s0 a w rfl hI (subL_sound hl hf) (hR w hm) hio
  exact ⟨e, a', w', hq, .of_steps (.one step_loop) harr⟩

theorem Go_fin {E : Env} {k : List KI} {l : L} {Rs : List Res} {σ : Type} {Lf : σ → L} {Rf : σ → List Res} {Inv : σ → Prop} {μ : σ → Nat} {m : Nat} (s' : σ) (h1 : Inv s') (h2 : μ s' < m) (h3 : subL (Lf s') l)
    (h4 : ∀ w, Mod E.hfs Rs w → Mod E.hfs (Rf s') w) : Go E (.fin (fun a w => ∃ s', Inv s' ∧ μ s' < m ∧ Fr E.N a (Lf s') ∧ Mod E.hfs (Rf s') w ∧ Oth E.w0 w) :: k) l Rs :=
  fun _ w hf hm hio => ⟨s', h1, h2, subL_sound h3 hf, h4 w hm, hio⟩

/-! ### a statement whose order is open -/
theorem Holds.of_mod {hfs : List PH} {w : World} : ∀ {LBR : List Res} {Rs : List Res}, Mod hfs Rs w → (∀ R ∈ LBR, R ∈ Rs) → Holds LBR w
  | [], _, _, _ => trivial
  | .blk b T cs :: r, Rs, hm, h => by
    obtain ⟨i, hi⟩ := List.mem_iff_getElem?.1 (h (.blk b T cs) (by simp))
    exact ⟨hm.blk_at hi, Holds.of_mod (LBR := r) hm fun R hR => h R (by simp [hR])⟩
  | .hp _ :: r, Rs, hm, h => Holds.of_mod (LBR := r) hm fun R hR => h R (by simp [hR])

/-- The frame's memory stands. -/
def FrmX (hfs : List PH) : World → Prop := fun w => ∀ h ∈ hfs, Sub h w
theorem FrmX.stable (hfs : List PH) : Stable (FrmX hfs) := fun w w' hk h g hg n o e => by rw [hk n ((h g hg).lt e)]; exact h g hg n o e
theorem FrmX.of_mod {hfs : List PH} {Rs : List Res} {w : World} (hm : Mod hfs Rs w) : FrmX hfs w := hm.sub

theorem Go_any {E : Env} (hmix : E.P.follows .mixedOrders = true) {id : Nat} {ops : Array Oper} {k : List KI} {l : L} {Rs : List Res} (M : List Nat) (plan : List (Nat × Bool)) (hp : Nat.beq plan.length ops.size = true)
    (hc : chk ops M (Array.replicate ops.size false) plan = true) (hs : Region.noSelect ops = true) (LBR : List Res) (LX : World → Prop) (hst : Stable LX) (hB : ∀ w, Mod E.hfs Rs w → Oth E.w0 w → Holds LBR w ∧ LX w)
    (h : Go E (.any ops M LBR LX (Array.replicate ops.size false) plan :: k) l Rs) : Go E (.code (.region id ops true) :: k) l Rs := by
  intro a w hf hm hio
  show (Code.region id ops true).wp E.P _ a w
  refine wp_region_any hmix (wpAny_of_X (M := M) (LB := LBof LBR LX) _ _ _ _ ?_)
  have hm' : Mod E.hfs Rs { w with drawn := w.drawn + 1 } := hm.keep fun _ _ => rfl
  have hio' : Oth E.w0 { w with drawn := w.drawn + 1 } := ⟨hio.os, hio.tape, hio.output, hio.size, Nat.le_succ_of_le hio.drawn⟩
  have := h a { w with drawn := w.drawn + 1 } hf hm' hio' hc hs hst (Closed.start _ _) fun _ => hB _ hm' hio'
  rwa [Nat.eq_of_beq_eq_true hp] at this

/-! ### one operation, by a law -/
def wantB (ops : List Oper) (l : L) (o : Oper) : Bool := match o.guard with
  | none => true
  | some (j, want) => match nth ops j with
    | some oj => match oj.dst with
      | some t => match look l t with
        | some .tt => want
        | some .ff => !want
        | _ => false
      | none => false
    | none => false

theorem wantB_sound {ops : Array Oper} {l : L} {o : Oper} {N : Nat} {a : Act} (hf : Fr N a l) (h : wantB ops.toList l o = true) : Region.wanted o (yielded ops a.tmps) = true := by
  unfold wantB at h
  split at h
  · rename_i hg; simp [Region.wanted, hg]
  · rename_i j want hg
    split at h <;> try (cases h; done)
    rename_i oj hj
    split at h <;> try (cases h; done)
    rename_i t ht
    split at h <;> try (cases h; done)
    · rename_i hl; subst h; simp [Region.wanted, hg, yielded_of hf hj ht hl rfl]
    · rename_i hl
      cases want
      · simp [Region.wanted, hg, yielded_of hf hj ht hl rfl]
      · cases h

/-- What an operation comes to, from a frame and resources. -/
def OpTo (E : Env) (l : L) (Rs : List Res) (o : Oper) (K : L → List Res → Prop) : Prop :=
  ∀ a w, Fr E.N a l → Mod E.hfs Rs w → Oth E.w0 w → o.wp E.P a w (fun a' w' => ∃ l' Rs', K l' Rs' ∧ Fr E.N a' l' ∧ Mod E.hfs Rs' w' ∧ Oth E.w0 w') (fun _ _ _ => False)

theorem Oper.wp_to {P : Program} {o : Oper} {a : Act} {w : World} {J J' : Act → World → Prop} {Q : Exit → Act → World → Prop} (h : o.wp P a w J (fun _ _ _ => False)) (hJ : ∀ a w, J a w → J' a w) : o.wp P a w J' Q := by
  unfold Oper.wp at *
  generalize (execOp a.eval o).run P w = r at *
  cases r with
  | ok n w' =>
    cases n <;> simp only [Oper.upon] at h ⊢ <;>
      first
        | exact hJ _ _ h
        | exact Calls.mono h (fun e w'' he => by cases e <;> first | exact hJ _ _ he | exact he.elim | (obtain ⟨_, _, he⟩ := he; exact he.elim))
        | exact Rows.mono h (fun _ _ he => hJ _ _ he)
        | exact h.elim
  | halt x w' => cases x <;> simp only [Oper.upon] at h ⊢ <;> exact h.elim

theorem Go_ops {E : Env} {ops : Array Oper} {o : Oper} {rest : List Oper} {k : List KI} {l : L} {Rs : List Res} (hg : wantB ops.toList l o = true) (h : OpTo E l Rs o fun l' Rs' => Go E (.ops ops rest :: k) l' Rs') :
    Go E (.ops ops (o :: rest) :: k) l Rs := by
  intro a w hf hm hio
  show wpList E.P ops _ (o :: rest) a w
  unfold wpList
  rw [if_pos (wantB_sound hf hg)]
  exact .inl (Oper.wp_to (h a w hf hm hio) fun a' w' ⟨l', Rs', h1, h2, h3, h4⟩ => h1 a' w' h2 h3 h4)

theorem Go_alone {E : Env} {ops : Array Oper} {M : List Nat} {LBR : List Res} {LX : World → Prop} {listed : Array Bool} {i : Nat} {r : List (Nat × Bool)} {o : Oper} {k : List KI} {l : L} {Rs : List Res} {K : L → List Res → Prop}
    (ho : nth ops.toList i = some o) (hg : wantB ops.toList l o = true) (hS : memb i M = true ∨ ∀ l' Rs', K l' Rs' → ∀ w, Mod E.hfs Rs' w → Oth E.w0 w → LBof LBR LX w) (h : OpTo E l Rs o K)
    (hK : ∀ l' Rs', K l' Rs' → Go E (.any ops M LBR LX (listed.setIfInBounds i true) r :: k) l' Rs') : Go E (.any ops M LBR LX listed ((i, true) :: r) :: k) l Rs := by
  intro a w hf hm hio hc hs hst hcl hS0
  have ho' : ops[i]? = some o := by rw [nth_eq] at ho; simpa using ho
  refine any_alone ho' hc hs hst hcl fun hr => ?_
  unfold wpOp
  simp only [ho', wantB_sound hf hg, if_true]
  refine .inl (Oper.wp_to (h a w hf hm hio) fun a' w' ⟨l', Rs', h1, h2, h3, h4⟩ => ⟨?_, hK l' Rs' h1 a' w' h2 h3 h4⟩)
  rcases hS with hS | hS
  · exact SX.of_mem hr (memb_spec hS)
  · exact fun _ => hS l' Rs' h1 w' h3 h4

theorem Go_aloneM {E : Env} {ops : Array Oper} {M : List Nat} {LBR : List Res} {LX : World → Prop} {listed : Array Bool} {i : Nat} {r : List (Nat × Bool)} {o : Oper} {k : List KI} {l : L} {Rs : List Res}
    (ho : nth ops.toList i = some o) (hg : wantB ops.toList l o = true) (hM : memb i M = true) (h : OpTo E l Rs o fun l' Rs' => Go E (.any ops M LBR LX (listed.setIfInBounds i true) r :: k) l' Rs') :
    Go E (.any ops M LBR LX listed ((i, true) :: r) :: k) l Rs := Go_alone ho hg (.inl hM) h fun _ _ h => h

/-- Memory that is read first, known by the condition. -/
theorem Go_first {E : Env} {ops : Array Oper} {M : List Nat} {LBR : List Res} {LX : World → Prop} {listed : Array Bool} {i : Nat} {r : List (Nat × Bool)} {o : Oper} {k : List KI} {l : L} {Rs : List Res} {T : TypeId} {x : Operand} {p : Addr} {v : Value}
    (ho : nth ops.toList i = some o) (hop : o.op = .load T x) (hg : wantB ops.toList l o = true) (hx : ev l x = some (.v (.pointer (some p)))) (hl : ∀ w, Holds LBR w → LX w → (loadVar T p).run E.P w = .ok v w)
    (hK : setd E.N o.dst (.v v) l fun l' => Go E (.any ops M LBR LX (listed.setIfInBounds i true) r :: k) l' Rs) : Go E (.any ops M LBR LX listed ((i, false) :: r) :: k) l Rs := by
  intro a w hf hm hio hc hs hst hcl hS0
  have ho' : ops[i]? = some o := by rw [nth_eq] at ho; simpa using ho
  obtain ⟨l2, m1, m2⟩ := setd_sound hK hf
  refine any_first ho' hc hs hst hcl hS0 (.inr ⟨by rw [hop]; rfl, .inl ⟨wantB_sound hf hg, fun w' hw' => ?_⟩⟩) (m1 _ w m2 hm hio)
  simp only [execOp, hop, ev_sound hf hx, SV.val, Instr.loadAt, Instr.sureAddr, Sem.run_bind, Sem.run_pure, Result.andThen_ok, hl w' hw'.1 hw'.2]

/-- An operation that leaves a value. -/
theorem OpTo_run {E : Env} {l : L} {Rs : List Res} {o : Oper} {K : L → List Res → Prop} {Qo : Value → List Res → Prop}
    (h : ∀ a w, Fr E.N a l → Mod E.hfs Rs w → Oth E.w0 w → ∃ v Rs' w', (execOp a.eval o).run E.P w = .ok (.value v) w' ∧ Qo v Rs' ∧ Mod E.hfs Rs' w' ∧ Oth w w') (hK : ∀ v Rs', Qo v Rs' → setd E.N o.dst (.v v) l fun l' => K l' Rs') : OpTo E l Rs o K := by
  intro a w hf hm hio
  obtain ⟨v, Rs', w', h1, h2, h3, h4⟩ := h a w hf hm hio
  obtain ⟨l', k1, k2⟩ := setd_sound (hK v Rs' h2) hf
  unfold Oper.wp
  rw [h1]
  exact ⟨l', Rs', k1, k2, h3, hio.trans h4⟩

/-- One that leaves none. -/
theorem OpTo_skip {E : Env} {l : L} {Rs : List Res} {o : Oper} {K : L → List Res → Prop} {Qo : List Res → Prop} (hd : o.dst = none)
    (h : ∀ a w, Fr E.N a l → Mod E.hfs Rs w → Oth E.w0 w → ∃ Rs' w', (execOp a.eval o).run E.P w = .ok .skip w' ∧ Qo Rs' ∧ Mod E.hfs Rs' w' ∧ Oth w w') (hK : ∀ Rs', Qo Rs' → K l Rs') : OpTo E l Rs o K := by
  intro a w hf hm hio
  obtain ⟨Rs', w', h1, h2, h3, h4⟩ := h a w hf hm hio
  unfold Oper.wp
  rw [h1]
  refine ⟨l, Rs', hK Rs' h2, ?_, h3, hio.trans h4⟩
  rw [hd]; exact hf

/-! ### calls -/
def callable (P : Program) (f : FuncId) : Bool := match P.funcs[f]? with
  | some fn => fn.name != "runtime.NumGoroutine" && fn.body.isSome
  | none => false

theorem run_callFunc {P : Program} {f : FuncId} (h : callable P f = true) (args : Array Value) (w : World) : (callFunc f args).run P w = .ok (.enter f args) w := by
  unfold callable at h
  split at h
  · rename_i fn hf
    simp only [Bool.and_eq_true, bne_iff_ne] at h
    have hb : fn.body ≠ none := by intro hx; rw [hx] at h; cases h.2
    simp [callFunc, program, Sem.run, hf, h.1, hb]
  · cases h

theorem OpTo_call {E : Env} {l : L} {Rs : List Res} {o : Oper} {c : Call} {x : Operand} {f : FuncId} {first cap : Array Value} {vs av : List Value} {K : L → List Res → Prop} {Qc : Value → List Res → Prop}
    (ho : o.op = .call c) (hc : c.callee = .value x) (hx : ev l x = some (.v (.func (.func f) first cap))) (hv : evs l c.args.toList = some vs) (has : first.toList ++ vs ++ cap.toList = av) (hf : callable E.P f = true)
    (hcall : ∀ w, Mod E.hfs Rs w → Oth E.w0 w → Calls E.P f av.toArray w fun e w' => ∃ v Rs', e = .returned v ∧ Qc v Rs' ∧ Mod E.hfs Rs' w' ∧ Oth w w')
    (hK : ∀ v Rs', Qc v Rs' → setd E.N o.dst (.v v) l fun l' => K l' Rs') : OpTo E l Rs o K := by
  intro a w hfr hm hio
  have hargs : c.args.map a.eval = vs.toArray := by
    apply Array.toList_inj.1
    simp [evs_sound hfr hv]
  have hrun : (execOp a.eval o).run E.P w = .ok (.enter f av.toArray) w := by
    have e1 : (first ++ vs.toArray ++ cap) = av.toArray := by
      apply Array.toList_inj.1
      simp [← has]
    simp only [execOp, ho, Sem.run_bind, resolve, hc, hargs, ev_sound hfr hx, SV.val, Deferred.ofValue, Sem.run_pure, Result.andThen_ok, invoke]
    rw [run_callFunc hf, e1]
  unfold Oper.wp
  rw [hrun]
  refine Calls.mono (hcall w hm hio) fun e w' he => ?_
  obtain ⟨v, Rs', rfl, h2, h3, h4⟩ := he
  obtain ⟨l', k1, k2⟩ := setd_sound (hK v Rs' h2) hfr
  exact ⟨l', Rs', k1, k2, h3, hio.trans h4⟩

/-- A call that only answers. -/
theorem OpTo_pcall {E : Env} {l : L} {Rs : List Res} {o : Oper} {c : Call} {x : Operand} {f : FuncId} {first cap : Array Value} {vs av : List Value} {K : L → List Res → Prop} {v : Value}
    (ho : o.op = .call c) (hc : c.callee = .value x) (hx : ev l x = some (.v (.func (.func f) first cap))) (hv : evs l c.args.toList = some vs) (has : first.toList ++ vs ++ cap.toList = av) (hf : callable E.P f = true)
    (hcall : ∀ w, Mod E.hfs Rs w → Oth E.w0 w → Calls E.P f av.toArray w fun e w' => e = .returned v ∧ BelowD w.heap.size w w')
    (hK : setd E.N o.dst (.v v) l fun l' => K l' Rs) : OpTo E l Rs o K :=
  OpTo_call (Qc := fun u Rs' => u = v ∧ Rs' = Rs) ho hc hx hv has hf
    (fun w hm hio => (hcall w hm hio).mono fun e w' ⟨h1, h2⟩ => ⟨v, Rs, h1, ⟨rfl, rfl⟩, hm.keep fun n hn => h2.block n hn, Oth.of_below h2⟩)
    (fun u Rs' ⟨h1, h2⟩ => by subst h1 h2; exact hK)

/-- A call that answers with new memory. -/
theorem OpTo_ncall {E : Env} {l : L} {Rs : List Res} {o : Oper} {c : Call} {x : Operand} {f : FuncId} {first cap : Array Value} {vs av : List Value} {K : L → List Res → Prop} {Qc : Value → List Res → Prop}
    (ho : o.op = .call c) (hc : c.callee = .value x) (hx : ev l x = some (.v (.func (.func f) first cap))) (hv : evs l c.args.toList = some vs) (has : first.toList ++ vs ++ cap.toList = av) (hf : callable E.P f = true)
    (hcall : ∀ w, Mod E.hfs Rs w → Oth E.w0 w → Calls E.P f av.toArray w fun e w' => ∃ v Rs', e = .returned v ∧ Qc v Rs' ∧ Mod [heapOf w] Rs' w' ∧ Oth w w')
    (hK : ∀ v Rs', Qc v Rs' → setd E.N o.dst (.v v) l fun l' => K l' (Rs' ++ Rs)) : OpTo E l Rs o K :=
  OpTo_call (Qc := fun u Rs2 => ∃ Rs', Qc u Rs' ∧ Rs2 = Rs' ++ Rs) ho hc hx hv has hf
    (fun w hm hio => (hcall w hm hio).mono fun e w' ⟨v, Rs', h1, h2, h3, h4⟩ => ⟨v, Rs' ++ Rs, h1, ⟨Rs', h2, rfl⟩, h3.beside hm, h4⟩)
    (fun u Rs2 ⟨Rs', h1, h2⟩ => by subst h2; exact hK u Rs' h1)

/-- A call that turns some resources. -/
theorem OpTo_mcall {E : Env} {l : L} {Rs : List Res} {o : Oper} {c : Call} {x : Operand} {f : FuncId} {first cap : Array Value} {vs av : List Value} {K : L → List Res → Prop} {Qc : Value → List Res → Prop} (Rp Rr : List Res) (hp : Rs.Perm (Rp ++ Rr))
    (ho : o.op = .call c) (hc : c.callee = .value x) (hx : ev l x = some (.v (.func (.func f) first cap))) (hv : evs l c.args.toList = some vs) (has : first.toList ++ vs ++ cap.toList = av) (hf : callable E.P f = true)
    (hcall : ∀ w hb, Mod E.hfs Rs w → Oth E.w0 w → (∀ a' w', Mod (hb ++ E.hfs) a' w' → Mod E.hfs (a' ++ Rr) w') → Mod (hb ++ E.hfs) Rp w → Calls E.P f av.toArray w fun e w' => ∃ v Rs', e = .returned v ∧ Qc v Rs' ∧ Mod (hb ++ E.hfs) Rs' w' ∧ Oth w w')
    (hK : ∀ v Rs', Qc v Rs' → setd E.N o.dst (.v v) l fun l' => K l' (Rs' ++ Rr)) : OpTo E l Rs o K :=
  OpTo_call (Qc := fun u Rs2 => ∃ Rs', Qc u Rs' ∧ Rs2 = Rs' ++ Rr) ho hc hx hv has hf
    (fun w hm hio => by
      obtain ⟨hb, h1, h2⟩ := (hm.permRs hp).split
      exact (hcall w hb hm hio (fun a' w' => h2 a' w') h1).mono fun e w' ⟨v, Rs', k1, k2, k3, k4⟩ => ⟨v, Rs' ++ Rr, k1, ⟨Rs', k2, rfl⟩, h2 Rs' w' k3, k4⟩)
    (fun u Rs2 ⟨Rs', h1, h2⟩ => by subst h2; exact hK u Rs' h1)

/-! ### reading what is known of the world -/
theorem OpTo_load {E : Env} {l : L} {Rs : List Res} {o : Oper} {K : L → List Res → Prop} {T : TypeId} {x : Operand} {p : Addr} {v : Value} (ho : o.op = .load T x) (hx : ev l x = some (.v (.pointer (some p))))
    (hl : ∀ w, Mod E.hfs Rs w → Oth E.w0 w → (loadVar T p).run E.P w = .ok v w) (hK : setd E.N o.dst (.v v) l fun l' => K l' Rs) : OpTo E l Rs o K :=
  OpTo_run (Qo := fun u Rs' => u = v ∧ Rs' = Rs)
    (fun a w hf hm hio => ⟨v, Rs, w, by
      simp only [execOp, ho, ev_sound hf hx, SV.val, Instr.loadAt, Instr.sureAddr, Sem.run_bind, Sem.run_pure, Result.andThen_ok, hl w hm hio], ⟨rfl, rfl⟩, hm, Oth.refl w⟩)
    (fun u Rs' ⟨h1, h2⟩ => by subst h1 h2; exact hK)

end Go.RX

/- RX, part 10: slices: memory that is read as a list; a row that is owned; append, stores, cuts. -/
set_option autoImplicit false
set_option linter.unusedVariables false
set_option linter.unusedSimpArgs false
namespace Go.RX
open Go Go.RowKit

/-! ### elements as cells -/
structure IsEnc {α : Type} (enc : α → List Value) (k : Nat) : Prop where
  len : ∀ x, (enc x).length = k
  one : ∀ x, ∀ v ∈ enc x, cell1 v = true
  pos : 0 < k

def encI (k : IntKind) : Int → List Value := fun x => [.int k x]
theorem encI_is (k : IntKind) : IsEnc (encI k) 1 := ⟨fun _ => rfl, fun x v hv => by simp [encI] at hv; subst hv; rfl, by decide⟩
def encB : Bool → List Value := fun x => [.bool x]
theorem encB_is : IsEnc encB 1 := ⟨fun _ => rfl, fun x v hv => by simp [encB] at hv; subst hv; rfl, by decide⟩
theorem flat_encI (k : IntKind) (zs : List Int) : zs.flatMap (encI k) = zs.map (.int k) := by induction zs <;> simp_all [encI]
theorem flat_encB (zs : List Bool) : zs.flatMap encB = zs.map .bool := by induction zs <;> simp_all [encB]

section
variable {α : Type} {enc : α → List Value} {k : Nat}
theorem IsEnc.flat_len (he : IsEnc enc k) (xs : List α) : (xs.flatMap enc).length = xs.length * k := by
  induction xs with
  | nil => simp
  | cons x r ih => simp [ih, he.len, Nat.succ_mul]; omega
theorem IsEnc.flat_nil (he : IsEnc enc k) {xs : List α} (h : xs.flatMap enc = []) : xs = [] := by
  have := he.flat_len xs
  rw [h] at this
  have hp := he.pos
  have h0 : xs.length * k = 0 := by simpa using this.symm
  rcases Nat.mul_eq_zero.1 h0 with h | h
  · exact List.eq_nil_of_length_eq_zero h
  · omega
theorem IsEnc.flat_at (he : IsEnc enc k) : ∀ {xs : List α} {i : Nat} {x : α}, xs[i]? = some x → ∀ j v, (enc x)[j]? = some v → (xs.flatMap enc)[i * k + j]? = some v
  | [], i, x, h, _, _, _ => by simp at h
  | y :: r, 0, x, h, j, v, hv => by
    simp at h; subst h
    have hj := (List.getElem?_eq_some_iff.1 hv).1
    rw [List.flatMap_cons, List.getElem?_append_left (by omega)]
    simpa using hv
  | y :: r, i + 1, x, h, j, v, hv => by
    have := he.flat_at (xs := r) (i := i) (by simpa using h) j v hv
    rw [List.flatMap_cons, List.getElem?_append_right (by rw [he.len, Nat.succ_mul]; omega), he.len, ← this]
    congr 1
    rw [Nat.succ_mul]; omega
theorem IsEnc.flat_one (he : IsEnc enc k) {xs : List α} : ∀ v ∈ xs.flatMap enc, cell1 v = true := by
  intro v hv
  obtain ⟨x, _, hx⟩ := List.mem_flatMap.1 hv
  exact he.one x v hx
theorem IsEnc.flat_take (he : IsEnc enc k) (xs : List α) (n : Nat) : (xs.take n).flatMap enc = (xs.flatMap enc).take (n * k) := by
  induction xs generalizing n with
  | nil => simp
  | cons x r ih =>
    cases n with
    | zero => simp
    | succ n =>
      have hl := he.len x
      simp only [List.take_succ_cons, List.flatMap_cons, ih]
      rw [List.take_append, hl, List.take_of_length_le (l := enc x) (by rw [hl, Nat.succ_mul]; omega)]
      congr 2
      rw [Nat.succ_mul]; omega
theorem IsEnc.flat_drop (he : IsEnc enc k) (xs : List α) (n : Nat) : (xs.drop n).flatMap enc = (xs.flatMap enc).drop (n * k) := by
  induction xs generalizing n with
  | nil => simp
  | cons x r ih =>
    cases n with
    | zero => simp
    | succ n =>
      have hl := he.len x
      simp only [List.drop_succ_cons, List.flatMap_cons, ih]
      rw [List.drop_append, hl, List.drop_of_length_le (l := enc x) (by rw [hl, Nat.succ_mul]; omega), List.nil_append]
      congr 1
      rw [Nat.succ_mul]; omega
theorem IsEnc.flat_set (he : IsEnc enc k) {xs : List α} {i : Nat} (hi : i < xs.length) (y : α) : (xs.set i y).flatMap enc = (xs.flatMap enc).take (i * k) ++ enc y ++ (xs.flatMap enc).drop (i * k + k) := by
  rw [List.set_eq_take_append_cons_drop, if_pos hi]
  simp only [List.flatMap_append, List.flatMap_cons]
  rw [he.flat_take, he.flat_drop, List.append_assoc, Nat.succ_mul]
end

/-! ### memory that reads as cells -/
def RdW (w : World) (A : Option Addr) (cs : List Value) : Prop := cs = [] ∨ ∃ b o, A = some ⟨b, o, none⟩ ∧ ∀ j v, cs[j]? = some v → w.cell? ⟨b, o + j, none⟩ = some v

theorem RdW.old {w0 w : World} {A : Option Addr} {cs : List Value} (h : RdW w0 A cs) (hk : ∀ n, n < w0.heap.size → w.heap[n]? = w0.heap[n]?) : RdW w A cs := by
  rcases h with h | ⟨b, o, h1, h2⟩
  · exact .inl h
  · refine .inr ⟨b, o, h1, fun j v hv => ?_⟩
    have := h2 j v hv
    have hlt := World.block_lt_of_cell? w0 _ this
    rw [← this]
    exact World.cell?_of_block (hk b hlt)

theorem RdW.mod {w0 w : World} {A : Option Addr} {cs : List Value} {Rs : List Res} (h : RdW w0 A cs) (hm : Mod [heapOf w0] Rs w) : RdW w A cs :=
  h.old fun n hn => by
    have := hm.sub (heapOf w0) (by simp) n (w0.heap[n]) (by simp [heapOf, hn])
    rw [this]; simp [hn]

theorem RdW.io {w0 w : World} {A : Option Addr} {cs : List Value} (h : RdW w0 A cs) (hb : BelowD w0.heap.size w0 w) : RdW w A cs := h.old fun n hn => hb.block n hn

/-- A heap that tells of memory. -/
def RdH (h : PH) (A : Option Addr) (cs : List Value) : Prop := cs = [] ∨ ∃ b o, A = some ⟨b, o, none⟩ ∧ ∃ c T fr, h b = some (.cells c T fr) ∧ ∀ j v, cs[j]? = some v → c[o + j]? = some v
theorem RdH.world {h : PH} {A : Option Addr} {cs : List Value} {w : World} (hr : RdH h A cs) (hs : Sub h w) : RdW w A cs := by
  rcases hr with hr | ⟨b, o, h1, c, T, fr, h2, h3⟩
  · exact .inl hr
  · exact .inr ⟨b, o, h1, fun j v hv => by simp [World.cell?, hs b _ h2, h3 j v hv]⟩
theorem RdW.heap {w : World} {A : Option Addr} {cs : List Value} (hr : RdW w A cs) : RdH (heapOf w) A cs := by
  rcases hr with hr | ⟨b, o, h1, h2⟩
  · exact .inl hr
  · cases cs with
    | nil => exact .inl rfl
    | cons v0 r =>
      have h0 := h2 0 v0 rfl
      simp only [World.cell?] at h0
      split at h0
      · rename_i c T fr hb
        refine .inr ⟨b, o, h1, c, T, fr, hb, fun j v hv => ?_⟩
        have := h2 j v hv
        simpa [World.cell?, hb] using this
      · cases h0

def mkV : Bool → List Value → Value
  | true, cs => .agg cs.toArray
  | false, [v] => v
  | false, _ => undef

section
variable {P : Program} {tab : Tab}

theorem run_loadVar_cell (ht : TabOk P tab) {T : Nat} {i : TyI} (hi : tlook tab T = some i) (ha : i.kind.agg = false) {w : World} {p : Addr} {v : Value} (h : w.cell? p = some v) : (loadVar T p).run P w = .ok v w := by
  simp only [loadVar, Sem.run_bind, (ht T i hi).run_agg, Result.andThen_ok, ha]
  simp [h]

/-- The cells of one element. -/
theorem run_loadVar_cells (ht : TabOk P tab) {T : Nat} {i : TyI} (hi : tlook tab T = some i) {w : World} {b o : Nat} {cs : List Value} (hl : cs.length = i.size) (h1 : i.kind.agg = false → i.size = 1)
    (h : ∀ j v, cs[j]? = some v → w.cell? ⟨b, o + j, none⟩ = some v) : (loadVar T ⟨b, o, none⟩).run P w = .ok (mkV i.kind.agg cs) w := by
  have hok := ht T i hi
  cases ha : i.kind.agg with
  | true =>
    have hr := run_loadCells_list (P := P) (w := w) ⟨b, o, none⟩ cs fun j u hu => by rw [← addA_eq]; exact h j u hu
    rw [hl] at hr
    simp only [loadVar, Sem.run_bind, hok.run_agg, Result.andThen_ok, ha, if_true, hok.run_size, hr, Sem.run_pure, mkV]
  | false =>
    rw [h1 ha] at hl
    match cs, hl with
    | [v], _ => exact run_loadVar_cell ht hi ha (h 0 v rfl)

/-- An element of a list that memory reads as. -/
theorem rxLoadRow (ht : TabOk P tab) {T : Nat} {i : TyI} (hi : tlook tab T = some i) {α : Type} {enc : α → List Value} {k : Nat} (he : IsEnc enc k) (hk : i.size = k) (h1 : i.kind.agg = false → i.size = 1) {w : World} {b o : Nat} {xs : List α}
    (hr : RdW w (some ⟨b, o, none⟩) (xs.flatMap enc)) {n : Nat} {x : α} (hx : xs[n]? = some x) {p : Addr} (hp : p = ⟨b, o + n * k, none⟩) {v : Value} (hv : mkV i.kind.agg (enc x) = v) : (loadVar T p).run P w = .ok v w := by
  subst hp hv
  rcases hr with hr | ⟨b', o', e, h2⟩
  · have := he.flat_nil hr; subst this; simp at hx
  · cases e
    refine run_loadVar_cells ht hi (by rw [he.len, hk]) h1 fun j v hv => ?_
    rw [Nat.add_assoc]
    exact h2 _ v (he.flat_at hx j v hv)
end

/-! ### a row that is owned -/
def OwnS {α : Type} (enc : α → List Value) (k : Nat) (T : TypeId) (A : Option Addr) (c : Nat) (xs : List α) : HP := fun h =>
  (xs = [] ∧ c = 0 ∧ h = emp) ∨ ∃ b pre tl, A = some ⟨b, pre.length, none⟩ ∧ h = one b (.cells (pre ++ xs.flatMap enc ++ tl).toArray T (0, 0)) ∧ tl.length = (c - xs.length) * k ∧ xs.length ≤ c ∧ c ≤ 9223372036854775807

abbrev own {α : Type} (enc : α → List Value) (k : Nat) (T : TypeId) (A : Option Addr) (c : Nat) (xs : List α) : Res := .hp (OwnS enc k T A c xs)

section
variable {α : Type} {enc : α → List Value} {k : Nat} {T : TypeId} {A : Option Addr} {c : Nat} {xs : List α} {hfs : List PH} {Rs : List Res} {w : World}

theorem OwnS.rd {h : PH} (ho : OwnS enc k T A c xs h) : RdH h A (xs.flatMap enc) := by
  rcases ho with ⟨rfl, _⟩ | ⟨b, pre, tl, h1, h2, _⟩
  · exact .inl rfl
  · subst h2
    refine .inr ⟨b, pre.length, h1, _, T, (0, 0), one_same _ _, fun j v hv => ?_⟩
    have hj := (List.getElem?_eq_some_iff.1 hv).1
    simp [List.append_assoc, List.getElem?_append_right, List.getElem?_append_left hj, hv]

theorem Mod.own_rd {i : Nat} (hm : Mod hfs Rs w) (hi : Rs[i]? = some (own enc k T A c xs)) : RdW w A (xs.flatMap enc) := by
  obtain ⟨h, h1, h2⟩ := hm.get hi
  exact (OwnS.rd h1).world h2

theorem Mod.own_le {i : Nat} (hm : Mod hfs Rs w) (hi : Rs[i]? = some (own enc k T A c xs)) : xs.length ≤ c ∧ c ≤ 9223372036854775807 := by
  obtain ⟨h, h1, h2⟩ := hm.get hi
  rcases h1 with ⟨rfl, rfl, _⟩ | ⟨b, pre, tl, _, _, _, h3, h4⟩
  · simp
  · exact ⟨h3, h4⟩

/-- Of nothing something is owned: nothing. -/
theorem Mod.own_nil (A : Option Addr) (hm : Mod hfs Rs w) : Mod hfs (own enc k T A 0 [] :: Rs) w :=
  hm.add (h := emp) (fun _ _ => rfl) (.inl ⟨rfl, rfl, rfl⟩) (fun _ _ => rfl) (Sub.emp w)

/-- A block that is known whole is a row. -/
theorem Mod.own_blk {i b : Nat} {cs : List Value} (hm : Mod hfs Rs w) (hi : Rs[i]? = some (.blk b T cs)) (hc : cs = xs.flatMap enc) (hl : xs.length ≤ 9223372036854775807) : Mod hfs (Rs.set i (own enc k T (some ⟨b, 0, none⟩) xs.length xs)) w :=
  hm.turn hi fun h h1 h2 => by
    cases h1
    refine ⟨_, .inr ⟨b, [], [], rfl, ?_, by simp, Nat.le_refl _, hl⟩, h2, fun n _ hn => ⟨rfl, hn⟩⟩
    simp [hc]

/-- The first ones alone. -/
theorem Mod.own_take {i n : Nat} (he : IsEnc enc k) (hn : n ≤ xs.length) (hm : Mod hfs Rs w) (hi : Rs[i]? = some (own enc k T A c xs)) : Mod hfs (Rs.set i (own enc k T A c (xs.take n))) w :=
  hm.turn hi fun h h1 h2 => by
    refine ⟨h, ?_, h2, fun n _ hn => ⟨rfl, hn⟩⟩
    rcases h1 with ⟨rfl, rfl, h3⟩ | ⟨b, pre, tl, h3, h4, h5, h6, h7⟩
    · exact .inl ⟨by simp, rfl, h3⟩
    · refine .inr ⟨b, pre, (xs.drop n).flatMap enc ++ tl, h3, ?_, ?_, by simp; omega, h7⟩
      · rw [h4, List.append_assoc, List.append_assoc, ← List.append_assoc (List.flatMap enc (xs.take n)), ← List.flatMap_append, List.take_append_drop]
      · rw [List.length_append, he.flat_len, h5, List.length_drop, List.length_take, ← Nat.add_mul]
        congr 1
        omega

/-- The last ones alone. -/
theorem Mod.own_drop {i n : Nat} (he : IsEnc enc k) (hn : n ≤ xs.length) (hm : Mod hfs Rs w) (hi : Rs[i]? = some (own enc k T A c xs)) : Mod hfs (Rs.set i (own enc k T (slA A c n k) (c - n) (xs.drop n))) w :=
  hm.turn hi fun h h1 h2 => by
    by_cases hcn : c = n
    · refine ⟨emp, .inl ⟨?_, by omega, rfl⟩, Sub.emp w, fun _ _ hx => ⟨rfl, rfl⟩⟩
      rcases h1 with ⟨rfl, _⟩ | ⟨_, _, _, _, _, _, h6, _⟩
      · simp
      · exact List.drop_eq_nil_of_le (by omega)
    · refine ⟨h, ?_, h2, fun _ _ hx => ⟨rfl, hx⟩⟩
      rcases h1 with ⟨rfl, rfl, h3⟩ | ⟨b, pre, tl, h3, h4, h5, h6, h7⟩
      · exact .inl ⟨by simp, by simp, h3⟩
      · refine .inr ⟨b, pre ++ (xs.take n).flatMap enc, tl, ?_, ?_, ?_, by simp; omega, by omega⟩
        · rw [slA, if_neg hcn, h3, Option.map_some, ← addA_eq]
          simp only [addA, List.length_append, he.flat_len, List.length_take]
          congr 3
          rw [Nat.min_eq_left hn]
        · have hx : xs.flatMap enc = (xs.take n).flatMap enc ++ (xs.drop n).flatMap enc := by rw [← List.flatMap_append, List.take_append_drop]
          rw [h4, hx]
          simp [List.append_assoc]
        · rw [h5, List.length_drop]; congr 1; omega

/-- An element is written. -/
theorem Mod.own_store {P : Program} {tab : Tab} (ht : TabOk P tab) {T' : Nat} {ti : TyI} (hti : tlook tab T' = some ti) (hk : ti.size = k) (he : IsEnc enc k) {i n : Nat} {y : α} {v : Value} (hv : v.cells.toList = enc y) {b o : Nat} {xs : List α}
    (hm : Mod hfs Rs w) (hi : Rs[i]? = some (own enc k T (some ⟨b, o, none⟩) c xs)) (hn : n < xs.length) {p : Addr} (hp : p = ⟨b, o + n * k, none⟩) :
    ∃ w', (storeVar T' p v).run P w = .ok () w' ∧ Mod hfs (Rs.set i (own enc k T (some ⟨b, o, none⟩) c (xs.set n y))) w' ∧ Oth w w' := by
  subst hp
  obtain ⟨h, h1, h2, hset⟩ := hm.open_ hi
  rcases h1 with ⟨rfl, _⟩ | ⟨b', pre, tl, h3, h4, h5, h6, h7⟩
  · simp at hn
  · obtain ⟨rfl, rfl⟩ : b = b' ∧ o = pre.length := by simpa using h3
    have hb : w.heap[b]? = some (.cells (pre ++ xs.flatMap enc ++ tl).toArray T (0, 0)) := h2 b _ (by rw [h4]; exact one_same _ _)
    have hfl := he.flat_len xs
    have hnk : n * k + k ≤ xs.length * k := by rw [← Nat.succ_mul]; exact Nat.mul_le_mul_right k hn
    obtain ⟨w', e1, e2, e3, e4, e5, e6, e7⟩ := run_storeCells (P := P) v.cells.toList 0 (w := w) (b := b) (off := pre.length + n * k) hb (by rw [hv, he.len]; simp [hfl]; omega) (by rw [hv]; exact he.one y)
    have hok := ht T' ti hti
    have hvs : v.cells.size = ti.size := by rw [hk, ← he.len y, ← hv]; simp
    refine ⟨w', ?_, hset _ _ w' (.inr ⟨b, pre, tl, rfl, rfl, by simpa using h5, by simpa using h6, h7⟩) (Sub.one ?_) (fun m _ hm0 => ?_), ⟨e5, e6, e7.1, by omega, by omega⟩⟩
    · simp only [storeVar, Sem.run_bind, hok.run_size, Result.andThen_ok, hvs, ne_eq, not_true_eq_false, if_false]
      simpa using e1
    · rw [e2, hv, he.flat_set hn, he.len]
      congr 2
      apply Array.toList_inj.1
      simp only [Nat.add_zero]
      rw [List.append_assoc pre, List.take_append, List.take_of_length_le (l := pre) (by omega), List.drop_append, List.drop_of_length_le (l := pre) (by omega), List.nil_append]
      rw [show pre.length + n * k - pre.length = n * k from by omega, show pre.length + n * k + k - pre.length = n * k + k from by omega]
      rw [List.take_append_of_le_length (by omega), List.drop_append_of_le_length (by omega)]
      simp [List.append_assoc]
    · have hne : m ≠ b := fun e => by subst e; rw [h4, one_same] at hm0; cases hm0
      exact ⟨e3 m hne, one_ne _ hne⟩
end

/-! ### append -/
section
variable {P : Program} {tab : Tab} {hfs : List PH} {Rs : List Res} {w : World} {α : Type} {enc : α → List Value} {k : Nat}

theorem run_first {B : Option Addr} {cs : List Value} {size n c : Nat} (hB : RdW w B cs) (hl : cs.length = n * size) (m : Nat) : (Builtin.firstCells size n (.slice B m c)).run P w = .ok cs.toArray w := by
  cases B with
  | none =>
    rcases hB with rfl | ⟨b, o, h, _⟩
    · simp [Builtin.firstCells]
    · cases h
  | some a =>
    simp only [Builtin.firstCells]
    rw [← hl]
    refine run_loadCells_list (P := P) (w := w) a cs fun j v hv => ?_
    rcases hB with rfl | ⟨b, o, h, h2⟩
    · simp at hv
    · cases h
      rw [← addA_eq]
      exact h2 j v hv

theorem zeroCells_toList_len (z : Array Value) (n : Nat) : (Builtin.zeroCells z n).toList.length = n * z.size := by simp [Builtin.zeroCells]

theorem append_own (ht : TabOk P tab) (he : IsEnc enc k) {sT xT e ty : TypeId} {ti : TyI} (hs : kindIs tab sT = some (.slice e)) (hx : kindIs tab xT = some (.slice e)) (hti : tlook tab e = some ti) (hk : ti.size = k) (hz : ti.zero.cells.toList.length = k)
    {A B : Option Addr} {c mc : Nat} {xs ys : List α} {i : Nat} (hm : Mod hfs Rs w) (hi : Rs[i]? = some (own enc k e A c xs)) (hB : RdW w B (ys.flatMap enc)) (hbd : (xs.length + ys.length) * ti.bytes ≤ 140737488355328) (hmx : xs.length + ys.length ≤ 9223372036854775807) :
    ∃ A' c' w', (Builtin.append_ #[sT, xT] ty #[.slice A xs.length c, .slice B ys.length mc]).run P w = .ok (.slice A' (xs.length + ys.length) c') w' ∧ Mod hfs (Rs.set i (own enc k e A' c' (xs ++ ys))) w' ∧ Oth w w' := by
  obtain ⟨d, hd, hdk⟩ := kind_spec ht hs
  simp only [TK.ok] at hdk; subst hdk
  obtain ⟨d', hd', hdk'⟩ := kind_spec ht hx
  simp only [TK.ok] at hdk'; subst hdk'
  have hok := ht e ti hti
  obtain ⟨inf, hinf, hinfb⟩ : ∃ inf : TypeInfo, (∀ w, (typeInfo e).run P w = .ok inf w) ∧ inf.bytes = ti.bytes := by
    obtain ⟨x, hx, e1⟩ := Option.map_eq_some_iff.1 hok.info
    simp only [Prod.mk.injEq] at e1
    exact ⟨x, fun w => by simp [typeInfo, program, Sem.run, hx], e1.2.1⟩
  have hsz : ∀ w, (sizeOf e).run P w = .ok k w := fun w => by rw [← hk]; exact hok.run_size
  have hzr : ∀ w, (zeroValue e).run P w = .ok ti.zero w := fun w => hok.run_zero
  have hyl : (ys.flatMap enc).length = ys.length * k := he.flat_len ys
  have hxl := he.flat_len xs
  have hnews := run_first (P := P) (w := w) (c := mc) hB hyl ys.length
  have hrdx := Mod.own_rd hm hi
  have hle := Mod.own_le hm hi
  obtain ⟨h, h1, h2, hset⟩ := hm.open_ hi
  by_cases hroom : xs.length + ys.length ≤ c
  · -- there is room
    rcases h1 with ⟨rfl, rfl, _⟩ | ⟨b, pre, tl, h3, h4, h5, h6, h7⟩
    · -- of nothing, nothing
      have hy : ys = [] := by simpa using hroom
      subst hy
      simp only [List.length_nil, List.flatMap_nil] at hnews
      refine ⟨A, 0, w, ?_, by simpa [Mod.set_same hi] using hm, Oth.refl w⟩
      cases A <;> simp [Builtin.append_, run_underlying' hd, run_underlying' hd', hsz, Builtin.lenOf, hnews, storeCells]
    · subst h3
      have hb : w.heap[b]? = some (.cells (pre ++ xs.flatMap enc ++ tl).toArray e (0, 0)) := h2 b _ (by rw [h4]; exact one_same _ _)
      have hyk : ys.length * k ≤ (c - xs.length) * k := Nat.mul_le_mul_right k (by omega)
      obtain ⟨w', e1, e2, e3, e4, e5, e6, e7⟩ := run_storeCells (P := P) (ys.flatMap enc) 0 (w := w) (b := b) (off := pre.length + xs.length * k) hb (by simp [hxl, hyl, h5]; omega) he.flat_one
      refine ⟨some ⟨b, pre.length, none⟩, c, w', ?_, hset _ _ w' (.inr ⟨b, pre, tl.drop (ys.length * k), rfl, rfl, ?_, by simpa using hroom, h7⟩) (Sub.one ?_) (fun m _ hm0 => ?_), ⟨e5, e6, e7.1, by omega, by omega⟩⟩
      · have hadd : (⟨b, pre.length, none⟩ : Addr).add (xs.length * k) = ⟨b, pre.length + xs.length * k, none⟩ := by rw [← addA_eq]; rfl
        simp [Builtin.append_, run_underlying' hd, run_underlying' hd', hsz, Builtin.lenOf, hnews, hroom, hadd, e1]
      · rw [List.length_drop, h5, List.length_append, ← Nat.sub_mul]; congr 1; omega
      · rw [e2]
        congr 2
        apply Array.toList_inj.1
        simp only [Nat.add_zero, List.flatMap_append, hyl]
        have hpl : (pre ++ xs.flatMap enc).length = pre.length + xs.length * k := by simp [hxl]
        rw [← hpl, List.take_append_of_le_length (Nat.le_refl _), List.take_length, List.drop_append, List.drop_of_length_le (l := pre ++ xs.flatMap enc) (by omega), List.nil_append]
        rw [show (pre ++ xs.flatMap enc).length + ys.length * k - (pre ++ xs.flatMap enc).length = ys.length * k from by omega]
        simp [List.append_assoc]
      · have hne : m ≠ b := fun e => by subst e; rw [h4, one_same] at hm0; cases hm0
        exact ⟨e3 m hne, one_ne _ hne⟩
  · -- a new array
    have hgt : c < xs.length + ys.length := by omega
    have hfit := growslice_fits (bytes := ti.bytes) hgt hbd
    let q : Question := .appendCap (xs.length + ys.length) c e
    let t := w.tape w.drawn q
    have hcut : q.cut t = xs.length + ys.length + t % (2 ^ 63 - (xs.length + ys.length)) := rfl
    have hlt := Nat.mod_lt t (show 0 < 2 ^ 63 - (xs.length + ys.length) by omega)
    let nc := q.cut t
    have hnc : xs.length + ys.length ≤ nc ∧ nc ≤ 9223372036854775807 := by
      show xs.length + ys.length ≤ q.cut t ∧ q.cut t ≤ _
      rw [hcut]; omega
    let w1 : World := { w with drawn := w.drawn + 1 }
    have hx1 : RdW w1 A (xs.flatMap enc) := hrdx.old fun _ _ => rfl
    have hy1 : RdW w1 B (ys.flatMap enc) := hB.old fun _ _ => rfl
    have hold := run_first (P := P) (w := w1) (c := c) hx1 hxl xs.length
    have hnew := run_first (P := P) (w := w1) (c := mc) hy1 hyl ys.length
    let tl := (Builtin.zeroCells ti.zero.cells (nc - (xs.length + ys.length))).toList
    let w' : World := { w1 with heap := w.heap.push (.cells (xs.flatMap enc ++ ys.flatMap enc ++ tl).toArray e (0, 0)) }
    have hch : (choose q).run P w = .ok nc w1 := by
      show Sem.run P (.choose q .pure) w = _
      simp only [Sem.run]
      rfl
    have hroomE : ∀ n w, (askRoom n).run P w = .ok () w := by
      intro n w
      unfold askRoom
      split
      · rfl
      · rfl
    refine ⟨some ⟨w.heap.size, 0, none⟩, nc, w', ?_, hset _ (one w.heap.size (.cells (xs.flatMap enc ++ ys.flatMap enc ++ tl).toArray e (0, 0))) w' (.inr ⟨w.heap.size, [], tl, rfl, by simp, ?_, by simpa using hnc.1, hnc.2⟩) (Sub.one ?_) (fun m hm1 hm0 => ?_), ⟨rfl, rfl, rfl, by simp [w', w1], by simp [w', w1]⟩⟩
    · have hmax : ¬ (IntKind.i64.max < ((xs.length + ys.length : Nat) : Int)) := by simp [IntKind.max, IntKind.bits, IntKind.signed]; omega
      have hfit' : ¬ (281474976710656 < Builtin.nextslicecap (xs.length + ys.length) c * inf.bytes) := by rw [hinfb]; omega
      have hmax' : ¬ (IntKind.i64.max < (xs.length : Int) + (ys.length : Int)) := by simpa using hmax
      have hold' : (Builtin.firstCells k xs.length (.slice A xs.length c)).run P w.drew = .ok (xs.flatMap enc).toArray w.drew := hold
      have hnew' : (Builtin.firstCells k ys.length (.slice B ys.length mc)).run P w.drew = .ok (ys.flatMap enc).toArray w.drew := hnew
      have hforced : (Question.appendCap (xs.length + ys.length) c e).forced = false := rfl
      simp [Builtin.append_, run_underlying' hd, run_underlying' hd', hsz, Builtin.lenOf, hroom, hinf, hzr, hroomE, hold', hnew', hfit', hmax', hforced, newRow, newObj, Sem.run]
      rw [if_neg (by omega)]
      show Result.ok _ _ = Result.ok _ _
      congr 1
      simp only [World.alloc, w', w1, tl, nc, t, q, World.drew]
      congr 3
      apply Array.toList_inj.1
      simp [List.append_assoc]
    · simp only [tl, zeroCells_toList_len, List.length_append]
      rw [← hz]; simp
    · simp [w']
    · exact ⟨by simp [w', w1, Array.getElem?_push, Nat.ne_of_lt hm1], one_ne _ (Nat.ne_of_lt hm1)⟩
end
end Go.RX

/- RX, part 11: operations on slices as laws of a step. -/
set_option autoImplicit false
set_option linter.unusedVariables false
set_option linter.unusedSimpArgs false
namespace Go.RX
open Go Go.RowKit

theorem Go_res {E : Env} {k : List KI} {l : L} {Rs : List Res} (Rs' : List Res) (hR : ∀ w, Mod E.hfs Rs w → Mod E.hfs Rs' w) (h : Go E k l Rs') : Go E k l Rs :=
  fun a w hf hm hio => h a w hf (hR w hm) hio

theorem OpTo_res {E : Env} {l : L} {Rs : List Res} {o : Oper} {K : L → List Res → Prop} (Rs' : List Res) (hR : ∀ w, Mod E.hfs Rs w → Mod E.hfs Rs' w) (h : OpTo E l Rs' o K) : OpTo E l Rs o K :=
  fun a w hf hm hio => h a w hf (hR w hm) hio

section
variable {E : Env} {l : L} {Rs : List Res} {o : Oper} {K : L → List Res → Prop} {α : Type} {enc : α → List Value} {k : Nat}

theorem Mod.own_some {hfs : List PH} {w : World} {T : TypeId} {A : Option Addr} {c : Nat} {xs : List α} {i : Nat} (hm : Mod hfs Rs w) (hi : Rs[i]? = some (own enc k T A c xs)) (hne : xs ≠ []) : ∃ b o, A = some ⟨b, o, none⟩ := by
  obtain ⟨h, h1, _⟩ := hm.get hi
  rcases h1 with ⟨h1, _⟩ | ⟨b, pre, tl, h3, _⟩
  · exact absurd h1 hne
  · exact ⟨b, _, h3⟩

theorem RdW.some {w : World} {A : Option Addr} {xs : List α} (he : IsEnc enc k) (h : RdW w A (xs.flatMap enc)) (hne : xs ≠ []) : ∃ b o, A = some ⟨b, o, none⟩ := by
  rcases h with h | ⟨b, o, h, _⟩
  · exact absurd (he.flat_nil h) hne
  · exact ⟨b, o, h⟩

theorem OpTo_append (ht : TabOk E.P E.tab) (he : IsEnc enc k) {sT xT e : TypeId} {x y : Operand} {A B : Option Addr} {n m c mc : Nat} {xs ys : List α} {ti : TyI} (i : Nat)
    (ho : o.op = .call { callee := .builtin .append, args := #[x, y], argTypes := #[sT, xT] }) (hx : ev l x = some (.v (.slice A n c))) (hy : ev l y = some (.v (.slice B m mc)))
    (hs : kindIs E.tab sT = some (.slice e)) (hxT : kindIs E.tab xT = some (.slice e)) (hti : tlook E.tab e = some ti) (hk : ti.size = k) (hz : ti.zero.cells.toList.length = k)
    (hi : Rs[i]? = some (own enc k e A c xs)) (hn : n = xs.length) (hm : m = ys.length) (hB : ∀ w, Mod E.hfs Rs w → Oth E.w0 w → RdW w B (ys.flatMap enc)) (hbd : (xs.length + ys.length) * ti.bytes ≤ 140737488355328) (hmx : xs.length + ys.length ≤ 9223372036854775807)
    (hK : ∀ A' c', setd E.N o.dst (.v (.slice A' (n + m) c')) l fun l' => K l' (Rs.set i (own enc k e A' c' (xs ++ ys)))) : OpTo E l Rs o K :=
  OpTo_run (Qo := fun v Rs' => ∃ A' c', v = .slice A' (n + m) c' ∧ Rs' = Rs.set i (own enc k e A' c' (xs ++ ys)))
    (fun a w hf hmod hio => by
      subst hn hm
      obtain ⟨A', c', w', h1, h2, h3⟩ := append_own (ty := o.type) (mc := mc) ht he hs hxT hti hk hz hmod hi (hB w hmod hio) hbd hmx
      refine ⟨_, _, w', ?_, ⟨A', c', rfl, rfl⟩, h2, h3⟩
      simp only [execOp, ho, Sem.run_bind, resolve, invoke, builtin]
      simp [ev_sound hf hx, ev_sound hf hy, SV.val, h1])
    (fun v Rs' ⟨A', c', h1, h2⟩ => by subst h1 h2; exact hK A' c')

theorem OpTo_loadRow (ht : TabOk E.P E.tab) (he : IsEnc enc k) {T : TypeId} {x : Operand} {p : Addr} {ti : TyI} {b n off : Nat} {xs : List α} {u : α} (v : Value) (ho : o.op = .load T x) (hx : ev l x = some (.v (.pointer (some p)))) (hti : tlook E.tab T = some ti) (hv : mkV ti.kind.agg (enc u) = v) (hk : ti.size = k) (h1 : ti.kind.agg = false → ti.size = 1)
    (hr : ∀ w, Mod E.hfs Rs w → Oth E.w0 w → RdW w (some ⟨b, off, none⟩) (xs.flatMap enc)) (hu : xs[n]? = some u) (hp : p = ⟨b, off + n * k, none⟩)
    (hK : setd E.N o.dst (.v v) l fun l' => K l' Rs) : OpTo E l Rs o K :=
  OpTo_load ho hx (fun w hm hio => rxLoadRow ht hti he hk h1 (hr w hm hio) hu hp hv) hK

theorem OpTo_loadBlk (ht : TabOk E.P E.tab) {T : TypeId} {x : Operand} {ti : TyI} {b off : Nat} {T' : TypeId} {cs : List Value} {fr : Nat × Nat} (v : Value) (ho : o.op = .load T x) (hx : ev l x = some (.v (.pointer (some ⟨b, off, none⟩)))) (hti : tlook E.tab T = some ti)
    (hb : ∀ w, Mod E.hfs Rs w → Oth E.w0 w → w.heap[b]? = some (.cells cs.toArray T' fr)) (hv : partL ti cs off = some v) (hK : setd E.N o.dst (.v v) l fun l' => K l' Rs) : OpTo E l Rs o K :=
  OpTo_load ho hx (fun w hm hio => run_loadVar_at ht hti (hb w hm hio) hv) hK

theorem OpTo_storeRow (ht : TabOk E.P E.tab) (he : IsEnc enc k) {T T' : TypeId} {x y : Operand} {p : Addr} {s : SV} {ti : TyI} {b n off c : Nat} {xs : List α} {u : α} (i : Nat) (ho : o.op = .store T' x y) (hd : o.dst = none) (hx : ev l x = some (.v (.pointer (some p)))) (hy : ev l y = some s)
    (hti : tlook E.tab T' = some ti) (hk : ti.size = k) (hi : Rs[i]? = some (own enc k T (some ⟨b, off, none⟩) c xs)) (hn : n < xs.length) (hp : p = ⟨b, off + n * k, none⟩) (hv : s.val.cells.toList = enc u)
    (hK : K l (Rs.set i (own enc k T (some ⟨b, off, none⟩) c (xs.set n u)))) : OpTo E l Rs o K :=
  OpTo_skip (Qo := fun Rs' => Rs' = Rs.set i (own enc k T (some ⟨b, off, none⟩) c (xs.set n u))) hd
    (fun a w hf hmod hio => by
      obtain ⟨w', h1, h2, h3⟩ := hmod.own_store ht hti hk he hv hi hn hp
      refine ⟨_, w', ?_, rfl, h2, h3⟩
      simp only [execOp, ho, ev_sound hf hx, ev_sound hf hy, SV.val, Instr.storeAt, Instr.sureAddr, Sem.run_bind, Sem.run_pure, Result.andThen_ok] at h1 ⊢
      rw [h1]
      rfl)
    (fun Rs' h => by subst h; exact hK)

end

theorem Mod.block_old {w0 w : World} {Rs : List Res} (hm : Mod [heapOf w0] Rs w) {b : Nat} {o : Obj} (h : w0.heap[b]? = some o) : w.heap[b]? = some o :=
  hm.sub (heapOf w0) (by simp) b o h

/-- What a function that only reads and makes memory leaves. -/
theorem calls_below {P : Program} {f : FuncId} {args : Array Value} {w0 : World} {v : Value} (h : Calls P f args w0 fun e w' => ∃ u Rs', e = .returned u ∧ u = v ∧ Mod [heapOf w0] Rs' w' ∧ Oth w0 w') :
    Calls P f args w0 fun e w' => e = .returned v ∧ BelowD w0.heap.size w0 w' :=
  h.mono fun e w' ⟨u, Rs', h1, h2, h3, h4⟩ => ⟨by rw [h1, h2], h3.below h4⟩

/-- Entering a function that only reads and makes memory, and answers 'v'. -/
theorem enterP {P : Program} {tab : Tab} {N : Nat} {res : List ResultVar} {v : Value} {f : FuncId} {fn : Func} {c : Code} (hf : P.funcs[f]? = some fn) (hb : fn.body = some c) (hN : fn.ntmps = N)
    (hres : fn.results.toList = res) {args : List Value} (hlen : Nat.ble args.length N = true) {w0 : World}
    (hgo : Go { P := P, tab := tab, N := N, res := res, hfs := [heapOf w0], w0 := w0, post := fun u _ => u = v } [.code c] (argL args 0) []) :
    Calls P f args.toArray w0 fun e w' => e = .returned v ∧ BelowD w0.heap.size w0 w' :=
  calls_below (enter hf hb hN hres hlen (Mod.start w0) hgo)

abbrev RdI (w : World) (A : Option Addr) (zs : List Int) : Prop := RdW w A (zs.flatMap (encI .i64))

theorem RdI.some {w : World} {A : Option Addr} {zs : List Int} (h : RdI w A zs) (hne : zs ≠ []) : ∃ b o, A = some ⟨b, o, none⟩ := RdW.some (encI_is .i64) h hne

/-! ### some of the resources, in another order -/
def selG {α : Type} : List Nat → List α → List α
  | [], _ => []
  | j :: r, xs => match nth xs j with
    | some x => x :: selG r xs
    | none => selG r xs
def nodupB : List Nat → Bool
  | [] => true
  | j :: r => !memb j r && nodupB r

theorem selG_mem {α : Type} : ∀ {js : List Nat} {xs : List α} {x : α}, x ∈ selG js xs → ∃ i, i ∈ js ∧ xs[i]? = some x
  | [], _, _, h => by simp [selG] at h
  | j :: r, xs, x, h => by
    simp only [selG] at h
    split at h
    · rename_i y hy
      rw [nth_eq] at hy
      rcases List.mem_cons.1 h with rfl | h
      · exact ⟨j, by simp, hy⟩
      · obtain ⟨i, h1, h2⟩ := selG_mem h
        exact ⟨i, by simp [h1], h2⟩
    · obtain ⟨i, h1, h2⟩ := selG_mem h
      exact ⟨i, by simp [h1], h2⟩

theorem memb_of {i : Nat} : ∀ {l : List Nat}, i ∈ l → memb i l = true
  | j :: r, h => by
    simp only [memb]
    rcases List.mem_cons.1 h with rfl | h
    · simp
    · have := memb_of h
      split <;> simp_all

theorem Sems.nth : ∀ {Rs : List Res} {hs : List PH} {j : Nat} {R : Res}, Sems Rs hs → Rs[j]? = some R → ∃ g, hs[j]? = some g ∧ R.sem g
  | [], _, _, _, _, h => by simp at h
  | _ :: _, [], _, _, h, _ => h.elim
  | _ :: _, x :: _, 0, _, h, hj => by simp at hj; subst hj; exact ⟨x, by simp, h.1⟩
  | _ :: _, _ :: _, j + 1, _, h, hj => by
    obtain ⟨g, h1, h2⟩ := Sems.nth (j := j) h.2 (by simpa using hj)
    exact ⟨g, by simpa using h1, h2⟩

theorem Sems.sel : ∀ {js : List Nat} {Rs : List Res} {hs : List PH}, Sems Rs hs → Sems (selG js Rs) (selG js hs)
  | [], _, _, _ => trivial
  | j :: r, Rs, hs, h => by
    have ih := Sems.sel (js := r) h
    have hl := h.length
    simp only [selG]
    cases hj : RX.nth Rs j with
    | some R =>
      rw [nth_eq] at hj
      obtain ⟨g, h1, h2⟩ := h.nth hj
      simp only [nth_eq, h1]
      exact ⟨h2, ih⟩
    | none =>
      rw [nth_eq] at hj
      have : hs[j]? = none := by
        rw [List.getElem?_eq_none_iff] at hj ⊢; omega
      simp only [nth_eq, this]
      exact ih

theorem Wf.sel {hfs : List PH} {w : World} : ∀ {js : List Nat} {hs : List PH}, nodupB js = true → Wf (hs ++ hfs) w → Wf (selG js hs ++ hfs) w
  | [], hs, _, h => ⟨fun g hg => h.1 g (by simp [selG] at hg; simp [hg]), (List.pairwise_append.1 h.2).2.1⟩
  | j :: r, hs, hn, h => by
    simp only [nodupB, Bool.and_eq_true, Bool.not_eq_true'] at hn
    have ih := Wf.sel (js := r) hn.2 h
    simp only [selG]
    cases hj : nth hs j with
    | none => exact ih
    | some g =>
      rw [nth_eq] at hj
      have hg : g ∈ hs := List.mem_of_getElem? hj
      refine Wf.cons.2 ⟨h.1 g (by simp [hg]), fun g2 h2 => ?_, ih⟩
      rcases List.mem_append.1 h2 with h2 | h2
      · obtain ⟨i, h3, h4⟩ := selG_mem h2
        have hne : i ≠ j := fun e => by
          subst e
          rw [memb_of h3] at hn
          exact absurd hn.1 (by simp)
        have hp := (List.pairwise_append.1 h.2).1
        obtain ⟨hjl, ej⟩ := List.getElem?_eq_some_iff.1 hj
        obtain ⟨hil, ei⟩ := List.getElem?_eq_some_iff.1 h4
        rw [List.pairwise_iff_getElem] at hp
        rcases Nat.lt_or_gt_of_ne hne with hlt | hlt
        · have := hp i j hil hjl hlt
          rw [ei, ej] at this
          exact this.symm
        · have := hp j i hjl hil hlt
          rwa [ei, ej] at this
      · exact (List.pairwise_append.1 h.2).2.2 g hg g2 h2

theorem Mod.sel {hfs : List PH} {Rs : List Res} {w : World} (js : List Nat) (hn : nodupB js = true) (hm : Mod hfs Rs w) : Mod hfs (selG js Rs) w := by
  obtain ⟨hs, h1, h2⟩ := hm
  exact ⟨_, h1.sel, h2.sel hn⟩

theorem Go_sel {E : Env} {k : List KI} {l : L} {Rs : List Res} (js : List Nat) (hn : nodupB js = true) (h : Go E k l (selG js Rs)) : Go E k l Rs :=
  fun a w hf hm hio => h a w hf (hm.sel js hn) hio

/-- A block of known cells reads as them. -/
theorem Mod.blk_rd {hfs : List PH} {Rs : List Res} {w : World} {i b : Nat} {T : TypeId} {cs : List Value} (hm : Mod hfs Rs w) (hi : Rs[i]? = some (.blk b T cs)) : RdW w (some ⟨b, 0, none⟩) cs :=
  .inr ⟨b, 0, rfl, fun j v hv => by simp [World.cell?, hm.blk_at hi, hv]⟩

/-- What is answered, of some of the resources. -/
def Some_ (Q : Value → List Res → Prop) : Value → List Res → Prop := fun v Rs => ∃ Rs', Q v Rs' ∧ ∀ hfs w, Mod hfs Rs w → Mod hfs Rs' w
theorem Some_.sel {Q : Value → List Res → Prop} {v : Value} {Rs : List Res} (js : List Nat) (hn : nodupB js = true) (h : Q v (selG js Rs)) : Some_ Q v Rs := ⟨_, h, fun _ _ hm => hm.sel js hn⟩

/-- Entering a function that answers with memory of its own. -/
theorem enterN {P : Program} {tab : Tab} {N : Nat} {res : List ResultVar} {Q : Value → List Res → Prop} {f : FuncId} {fn : Func} {c : Code} (hf : P.funcs[f]? = some fn) (hb : fn.body = some c) (hN : fn.ntmps = N)
    (hres : fn.results.toList = res) {args : List Value} (hlen : Nat.ble args.length N = true) {w0 : World} {hfs : List PH} {Rs : List Res} (hm : Mod hfs Rs w0)
    (hgo : Go { P := P, tab := tab, N := N, res := res, hfs := hfs, w0 := w0, post := Some_ Q } [.code c] (argL args 0) Rs) :
    Calls P f args.toArray w0 fun e w' => ∃ v Rs', e = .returned v ∧ Q v Rs' ∧ Mod hfs Rs' w' ∧ Oth w0 w' :=
  (enter hf hb hN hres hlen hm hgo).mono fun _ w' ⟨v, _, h1, ⟨Rs', h2, h3⟩, h4, h5⟩ => ⟨v, Rs', h1, h2, h3 _ _ h4, h5⟩

/-- An operation alone that turns no resource: the condition stays. -/
theorem Go_aloneS {E : Env} {ops : Array Oper} {M : List Nat} {LBR : List Res} {LX : World → Prop} {listed : Array Bool} {i : Nat} {r : List (Nat × Bool)} {o : Oper} {k : List KI} {l : L} {Rs : List Res}
    (ho : nth ops.toList i = some o) (hg : wantB ops.toList l o = true) (hS : ∀ w, Mod E.hfs Rs w → Oth E.w0 w → LBof LBR LX w)
    (h : OpTo E l Rs o fun l' Rs' => Rs' = Rs ∧ Go E (.any ops M LBR LX (listed.setIfInBounds i true) r :: k) l' Rs') : Go E (.any ops M LBR LX listed ((i, true) :: r) :: k) l Rs :=
  Go_alone ho hg (.inr fun _ _ h w => by rw [h.1]; exact hS w) h fun _ _ h => h.2

/-! ### clear -/
theorem flat_replicate {α : Type} {enc : α → List Value} (z : α) : ∀ m, (List.replicate m z).flatMap enc = repL m (enc z)
  | 0 => rfl
  | m + 1 => by rw [List.replicate_succ, List.flatMap_cons, flat_replicate z m]; rfl

theorem zeroCells_repL (z : Array Value) (m : Nat) (h : m * z.toList.length ≠ 0) : (Builtin.zeroCells z m).toList = repL m z.toList := by
  have := repL_range z.toList m h
  simp only [Array.toArray_toList] at this
  rw [Builtin.zeroCells]
  have e : z.toList.length = z.size := by simp
  rw [e] at this
  rw [this]

theorem Mod.own_clear {P : Program} {tab : Tab} {hfs : List PH} {Rs : List Res} {w : World} {α : Type} {enc : α → List Value} {k : Nat} (ht : TabOk P tab) (he : IsEnc enc k) {sT e ty : TypeId} {ti : TyI} (hs : kindIs tab sT = some (.slice e)) (hti : tlook tab e = some ti) {z : α} (hz : ti.zero.cells.toList = enc z)
    {A : Option Addr} {c mc : Nat} {xs : List α} {i j m : Nat} (hm : Mod hfs Rs w) (hi : Rs[i]? = some (own enc k e A c xs)) (hj : j + m = xs.length) :
    ∃ w', (Builtin.clear_ #[sT] ty #[.slice (slA A c j k) m mc]).run P w = .ok (.tuple #[]) w' ∧ Mod hfs (Rs.set i (own enc k e A c (xs.take j ++ List.replicate m z))) w' ∧ Oth w w' := by
  obtain ⟨d, hd, hdk⟩ := kind_spec ht hs
  simp only [TK.ok] at hdk; subst hdk
  by_cases hm0 : m = 0
  · subst hm0
    refine ⟨w, ?_, ?_, Oth.refl w⟩
    · cases h : slA A c j k <;> simp [Builtin.clear_, run_underlying' hd]
    · have : xs.take j = xs := List.take_of_length_le (by omega)
      simpa [this, Mod.set_same hi] using hm
  obtain ⟨h, h1, h2, hset⟩ := hm.open_ hi
  rcases h1 with ⟨rfl, rfl, _⟩ | ⟨b, pre, tl, h3, h4, h5, h6, h7⟩
  · simp at hj; omega
  subst h3
  have hb : w.heap[b]? = some (.cells (pre ++ xs.flatMap enc ++ tl).toArray e (0, 0)) := h2 b _ (by rw [h4]; exact one_same _ _)
  have hxl := he.flat_len xs
  have hadd : slA (some ⟨b, pre.length, none⟩) c j k = some ⟨b, pre.length + j * k, none⟩ := by
    rw [slA, if_neg (by omega), Option.map_some, ← addA_eq]; rfl
  have hzk : ti.zero.cells.toList.length = k := by rw [hz, he.len]
  have hpos := he.pos
  have hne : m * ti.zero.cells.toList.length ≠ 0 := by rw [hzk]; exact Nat.mul_ne_zero hm0 (by omega)
  have hcells := zeroCells_repL ti.zero.cells m hne
  have hflat : repL m ti.zero.cells.toList = (List.replicate m z).flatMap enc := by rw [flat_replicate, hz]
  have hfl : ((List.replicate m z).flatMap enc).length = m * k := by rw [he.flat_len]; simp
  have hjm : xs.length * k = j * k + m * k := by rw [← hj, Nat.add_mul]
  obtain ⟨w', e1, e2, e3, e4, e5, e6, e7⟩ := run_storeCells (P := P) ((List.replicate m z).flatMap enc) 0 (w := w) (b := b) (off := pre.length + j * k) hb (by simp [hxl, hfl]; omega) he.flat_one
  refine ⟨w', ?_, hset _ _ w' (.inr ⟨b, pre, tl, rfl, rfl, ?_, ?_, h7⟩) (Sub.one ?_) (fun n _ hn0 => ?_), ⟨e5, e6, e7.1, by omega, by omega⟩⟩
  · rw [hadd]
    obtain ⟨m', rfl⟩ : ∃ m', m = m' + 1 := ⟨m - 1, by omega⟩
    have hz0 := (ht e ti hti).run_zero (w := w)
    simp [Builtin.clear_, run_underlying' hd, hz0]
    rw [hcells, hflat, e1]
    rfl
  · rw [h5]; congr 1; simp; omega
  · simp; omega
  · rw [e2]
    congr 2
    apply Array.toList_inj.1
    simp only [Nat.add_zero, List.flatMap_append, hfl]
    have ht1 := he.flat_take xs j
    have hx : xs.flatMap enc = (xs.take j).flatMap enc ++ (xs.drop j).flatMap enc := by rw [← List.flatMap_append, List.take_append_drop]
    have hl1 : ((xs.take j).flatMap enc).length = j * k := by rw [he.flat_len, List.length_take, Nat.min_eq_left (by omega)]
    have hl2 : ((xs.drop j).flatMap enc).length = m * k := by rw [he.flat_len, List.length_drop, show xs.length - j = m by omega]
    rw [hx]
    have hp1 : (pre ++ (xs.take j).flatMap enc).length = pre.length + j * k := by simp [hl1]
    have ea : pre ++ ((xs.take j).flatMap enc ++ (xs.drop j).flatMap enc) ++ tl = (pre ++ (xs.take j).flatMap enc) ++ ((xs.drop j).flatMap enc ++ tl) := by simp [List.append_assoc]
    rw [ea, ← hp1, List.take_append_of_le_length (Nat.le_refl _), List.take_length, List.drop_append, List.drop_of_length_le (l := pre ++ _) (by omega), List.nil_append]
    rw [show (pre ++ (xs.take j).flatMap enc).length + m * k - (pre ++ (xs.take j).flatMap enc).length = m * k from by omega, ← hl2, List.drop_append_of_le_length (Nat.le_refl _), List.drop_length]
    simp [List.append_assoc]
  · have hne2 : n ≠ b := fun e => by subst e; rw [h4, one_same] at hn0; cases hn0
    exact ⟨e3 n hne2, one_ne _ hne2⟩

theorem OpTo_clear {E : Env} {l : L} {Rs : List Res} {o : Oper} {K : L → List Res → Prop} {α : Type} {enc : α → List Value} {k : Nat} (ht : TabOk E.P E.tab) (he : IsEnc enc k) {sT e : TypeId} {x : Operand} {A B : Option Addr} {c n mc m j : Nat} {xs : List α} {ti : TyI} (z : α) (i : Nat)
    (ho : o.op = .call { callee := .builtin .clear, args := #[x], argTypes := #[sT] }) (hx : ev l x = some (.v (.slice B n mc))) (hs : kindIs E.tab sT = some (.slice e)) (hti : tlook E.tab e = some ti) (hz : ti.zero.cells.toList = enc z)
    (hi : Rs[i]? = some (own enc k e A c xs)) (hB : B = slA A c j k) (hn : n = m) (hj : j + m = xs.length) (hK : setd E.N o.dst (.v (.tuple #[])) l fun l' => K l' (Rs.set i (own enc k e A c (xs.take j ++ List.replicate m z)))) : OpTo E l Rs o K :=
  OpTo_run (Qo := fun v Rs' => v = .tuple #[] ∧ Rs' = Rs.set i (own enc k e A c (xs.take j ++ List.replicate m z)))
    (fun a w hf hmod hio => by
      subst hB hn
      obtain ⟨w', h1, h2, h3⟩ := hmod.own_clear (ty := o.type) (mc := mc) ht he hs hti hz hi hj
      refine ⟨_, _, w', ?_, ⟨rfl, rfl⟩, h2, h3⟩
      simp only [execOp, ho, Sem.run_bind, resolve, invoke, builtin]
      simp [ev_sound hf hx, SV.val, h1])
    (fun v Rs' ⟨h1, h2⟩ => by subst h1 h2; exact hK)

/-! ### two that may come in either order -/
theorem OpTo_do {E : Env} (ht : TabOk E.P E.tab) {l : L} {Rs : List Res} {o : Oper} {K : L → List Res → Prop} (h : vcDo E.tab E.N E.w0.heap.size l Rs o K False) : OpTo E l Rs o K := by
  intro a w hf hm hio
  rcases vcDo_sound ht hf hm hio h with h | h
  · exact h.elim
  · exact h.wp fun l' Rs' a' w' h1 h2 h3 h4 => ⟨l', Rs', h1, h2, h3, h4⟩

theorem Go_fork {E : Env} {ops : Array Oper} {M : List Nat} {LBR : List Res} {LX : World → Prop} {listed : Array Bool} {p : List (Nat × Bool)} {k : List KI} {l : L} {Rs : List Res} (i j : Nat) (p1 p2 : List (Nat × Bool)) {oi oj : Oper} {Ki Kj : L → List Res → Prop}
    (hr : (Region.ready .any ops listed == [i, j]) = true) (n1 : Nat.beq (p1.length + 1) p.length = true) (n2 : Nat.beq (p2.length + 1) p.length = true) (c1 : chk ops M (listed.setIfInBounds i true) p1 = true) (c2 : chk ops M (listed.setIfInBounds j true) p2 = true)
    (hoi : nth ops.toList i = some oi) (hoj : nth ops.toList j = some oj) (gi : wantB ops.toList l oi = true) (gj : wantB ops.toList l oj = true)
    (si : memb i M = true ∨ ∀ l' Rs', Ki l' Rs' → ∀ w, Mod E.hfs Rs' w → Oth E.w0 w → LBof LBR LX w) (sj : memb j M = true ∨ ∀ l' Rs', Kj l' Rs' → ∀ w, Mod E.hfs Rs' w → Oth E.w0 w → LBof LBR LX w)
    (hi : OpTo E l Rs oi Ki) (hj : OpTo E l Rs oj Kj) (hKi : ∀ l' Rs', Ki l' Rs' → Go E (.any ops M LBR LX (listed.setIfInBounds i true) p1 :: k) l' Rs') (hKj : ∀ l' Rs', Kj l' Rs' → Go E (.any ops M LBR LX (listed.setIfInBounds j true) p2 :: k) l' Rs') :
    Go E (.any ops M LBR LX listed p :: k) l Rs := by
  intro a w hf hm hio hc hs hst hcl hS0
  have hr' : Region.ready .any ops listed = [i, j] := by simpa using hr
  have hl1 := Nat.eq_of_beq_eq_true n1
  have hl2 := Nat.eq_of_beq_eq_true n2
  have hoi' : ops[i]? = some oi := by rw [nth_eq] at hoi; simpa using hoi
  have hoj' : ops[j]? = some oj := by rw [nth_eq] at hoj; simpa using hoj
  have hri : i ∈ Region.ready .any ops listed := by rw [hr']; simp
  have hrj : j ∈ Region.ready .any ops listed := by rw [hr']; simp
  show wpAnyX E.P ops (Kpost E.P E.Q k) M (LBof LBR LX) p.length listed a w
  rw [← hl1]
  refine ⟨fun h => (by rw [hr'] at h; cases h), fun m hm' => ?_⟩
  rw [hr'] at hm'
  simp only [List.mem_cons, List.not_mem_nil, or_false] at hm'
  rcases hm' with rfl | rfl
  · unfold wpOp
    simp only [hoi', wantB_sound hf gi, if_true]
    refine .inl (Oper.wp_to (hi a w hf hm hio) fun a' w' ⟨l', Rs', h1, h2, h3, h4⟩ => ?_)
    have hS : SX M (LBof LBR LX) (listed.setIfInBounds m true) w' := by
      rcases si with si | si
      · exact SX.of_mem hri (memb_spec si)
      · exact fun _ => si l' Rs' h1 w' h3 h4
    exact ⟨hS, hKi l' Rs' h1 a' w' h2 h3 h4 c1 hs hst (hcl.step hri) hS⟩
  · unfold wpOp
    simp only [hoj', wantB_sound hf gj, if_true]
    refine .inl (Oper.wp_to (hj a w hf hm hio) fun a' w' ⟨l', Rs', h1, h2, h3, h4⟩ => ?_)
    have hS : SX M (LBof LBR LX) (listed.setIfInBounds m true) w' := by
      rcases sj with sj | sj
      · exact SX.of_mem hrj (memb_spec sj)
      · exact fun _ => sj l' Rs' h1 w' h3 h4
    have := hKj l' Rs' h1 a' w' h2 h3 h4 c2 hs hst (hcl.step hrj) hS
    rw [← hl1] at hl2
    rw [Nat.add_right_cancel hl2] at this
    exact ⟨hS, this⟩

/-! ### memory that nobody writes any more -/
def RoBag (L : List (Option Addr × List Value)) : HP := fun h => ∀ p ∈ L, RdH h p.1 p.2
abbrev ro (L : List (Option Addr × List Value)) : Res := .hp (RoBag L)

theorem Mod.ro_nil {hfs : List PH} {Rs : List Res} {w : World} (hm : Mod hfs Rs w) : Mod hfs (ro [] :: Rs) w :=
  hm.add (h := emp) (fun _ _ => rfl) (fun p hp => by simp at hp) (fun _ _ => rfl) (Sub.emp w)

theorem Mod.ro_rd {hfs : List PH} {Rs : List Res} {w : World} {i : Nat} {L : List (Option Addr × List Value)} (hm : Mod hfs Rs w) (hi : Rs[i]? = some (ro L)) {A : Option Addr} {cs : List Value} (h : (A, cs) ∈ L) : RdW w A cs := by
  obtain ⟨g, h1, h2⟩ := hm.get hi
  exact (h1 _ h).world h2

theorem Mod.ro_sub {hfs : List PH} {Rs : List Res} {w : World} {i : Nat} {L : List (Option Addr × List Value)} (L' : List (Option Addr × List Value)) (hm : Mod hfs Rs w) (hi : Rs[i]? = some (ro L)) (h : ∀ p ∈ L', p ∈ L) : Mod hfs (Rs.set i (ro L')) w :=
  hm.turn hi fun g h1 h2 => ⟨g, fun p hp => h1 p (h p hp), h2, fun n _ hn => ⟨rfl, hn⟩⟩

def uni (a b : PH) : PH := fun n => (a n).or (b n)

theorem RdH.uniL {a b : PH} {A : Option Addr} {cs : List Value} (h : RdH a A cs) : RdH (uni a b) A cs := by
  rcases h with h | ⟨b', o, h1, c, T, fr, h2, h3⟩
  · exact .inl h
  · exact .inr ⟨b', o, h1, c, T, fr, by simp [uni, h2], h3⟩
theorem RdH.uniR {a b : PH} (hd : Dj a b) {A : Option Addr} {cs : List Value} (h : RdH b A cs) : RdH (uni a b) A cs := by
  rcases h with h | ⟨b', o, h1, c, T, fr, h2, h3⟩
  · exact .inl h
  · refine .inr ⟨b', o, h1, c, T, fr, ?_, h3⟩
    rcases hd b' with h | h
    · simp [uni, h, h2]
    · rw [h] at h2; cases h2

/-- Two of which both are only read are one. -/
theorem Mod.merge {hfs : List PH} {Rs : List Res} {w : World} {R1 R2 : Res} {R : HP} (hR : ∀ a b, R1.sem a → R2.sem b → Dj a b → R (uni a b)) (hm : Mod hfs (R1 :: R2 :: Rs) w) : Mod hfs (.hp R :: Rs) w := by
  obtain ⟨hs, h1, h2⟩ := hm
  match hs, h1 with
  | a :: b :: r, ⟨k1, k2, k3⟩ =>
    have h3 := Wf.cons.1 h2
    have h4 := Wf.cons.1 h3.2.2
    have hd : Dj a b := h3.2.1 b (by simp)
    refine ⟨uni a b :: r, ⟨hR a b k1 k2 hd, k3⟩, Wf.cons.2 ⟨fun n o e => ?_, fun g hg n => ?_, h4.2.2⟩⟩
    · simp only [uni] at e
      cases ha : a n with
      | some x => rw [ha] at e; simp at e; subst e; exact h3.1 n _ ha
      | none => rw [ha] at e; simp at e; exact h4.1 n o e
    · rcases h3.2.1 g (by simp at hg ⊢; exact .inr hg) n with h | h
      · rcases h4.2.1 g (by simpa using hg) n with h' | h'
        · left; simp [uni, h, h']
        · exact .inr h'
      · exact .inr h

theorem Mod.ro_add {α : Type} {enc : α → List Value} {k : Nat} {T : TypeId} {A : Option Addr} {c : Nat} {xs : List α} {hfs : List PH} {Rs : List Res} {w : World} {L : List (Option Addr × List Value)} (hm : Mod hfs (own enc k T A c xs :: ro L :: Rs) w) :
    Mod hfs (ro ((A, xs.flatMap enc) :: L) :: Rs) w :=
  hm.merge fun a b h1 h2 hd p hp => by
    rcases List.mem_cons.1 hp with rfl | hp
    · exact (OwnS.rd h1).uniL
    · exact (h2 p hp).uniR hd

theorem Mod.ro_join {hfs : List PH} {Rs : List Res} {w : World} {L L' : List (Option Addr × List Value)} (hm : Mod hfs (ro L :: ro L' :: Rs) w) : Mod hfs (ro (L ++ L') :: Rs) w :=
  hm.merge fun a b h1 h2 hd p hp => by
    rcases List.mem_append.1 hp with hp | hp
    · exact (h1 p hp).uniL
    · exact (h2 p hp).uniR hd

/-- Memory that the frame keeps readable. -/
def RdF (hfs : List PH) (A : Option Addr) (cs : List Value) : Prop := ∀ Rs w, Mod hfs Rs w → RdW w A cs
theorem RdF.of_heap {w0 : World} {A : Option Addr} {cs : List Value} (h : RdW w0 A cs) : RdF [heapOf w0] A cs := fun _ _ hm => h.mod hm
theorem RdF.of_split {hb hfs : List PH} {Rr : List Res} (hsp : ∀ a' w', Mod (hb ++ hfs) a' w' → Mod hfs (a' ++ Rr) w') {A : Option Addr} {cs : List Value} (h : ∀ Rs w, Mod hfs (Rs ++ Rr) w → RdW w A cs) : RdF (hb ++ hfs) A cs :=
  fun Rs w hm => h Rs w (hsp Rs w hm)
theorem getElem?_append_add {α : Type} (a b : List α) (i : Nat) : (a ++ b)[a.length + i]? = b[i]? := by
  rw [List.getElem?_append_right (by omega)]; congr 1; omega

/-! ### a place where ways come together -/
theorem Go_cut {E : Env} {c : Code} {k : List KI} {l : L} {Rs : List Res} {σ : Type} (Lf : σ → L) (Rf : σ → List Res) (Inv : σ → Prop) (h1 : Go E (.code c :: .fin (fun a w => ∃ s, Inv s ∧ Fr E.N a (Lf s) ∧ Mod E.hfs (Rf s) w ∧ Oth E.w0 w) :: k) l Rs)
    (h2 : ∀ s, Inv s → Go E k (Lf s) (Rf s)) : Go E (.code c :: k) l Rs := by
  intro a w hf hm hio
  show c.wp E.P (Kpost E.P E.Q k) a w
  refine wp_mono (show c.wp E.P _ a w from h1 a w hf hm hio) fun e a w hq => ?_
  cases e with
  | normal =>
    obtain ⟨s, k1, k2, k3, k4⟩ := hq
    exact h2 s k1 a w k2 k3 k4
  | _ => exact hq

theorem Go_put {E : Env} {k : List KI} {l : L} {Rs : List Res} {σ : Type} {Lf : σ → L} {Rf : σ → List Res} {Inv : σ → Prop} (s : σ) (h1 : Inv s) (h3 : subL (Lf s) l) (h4 : ∀ w, Mod E.hfs Rs w → Mod E.hfs (Rf s) w) :
    Go E (.fin (fun a w => ∃ s, Inv s ∧ Fr E.N a (Lf s) ∧ Mod E.hfs (Rf s) w ∧ Oth E.w0 w) :: k) l Rs :=
  fun _ w hf hm hio => ⟨s, h1, subL_sound h3 hf, h4 w hm, hio⟩

/-- A call (of M) and a new variable, in either order. -/
theorem Go_forkA {E : Env} {ops : Array Oper} {M : List Nat} {LBR : List Res} {LX : World → Prop} {listed : Array Bool} {p : List (Nat × Bool)} {k : List KI} {l : L} {Rs : List Res} (i j : Nat) (p1 p2 : List (Nat × Bool)) {oi oj : Oper}
    (hr : (Region.ready .any ops listed == [i, j]) = true) (n1 : Nat.beq (p1.length + 1) p.length = true) (n2 : Nat.beq (p2.length + 1) p.length = true) (c1 : chk ops M (listed.setIfInBounds i true) p1 = true) (c2 : chk ops M (listed.setIfInBounds j true) p2 = true)
    (hoi : nth ops.toList i = some oi) (hoj : nth ops.toList j = some oj) (gi : wantB ops.toList l oi = true) (gj : wantB ops.toList l oj = true) (mi : memb i M = true) (sj : ∀ R w, Mod E.hfs (R :: Rs) w → Oth E.w0 w → LBof LBR LX w)
    (hi : OpTo E l Rs oi fun l' Rs' => Go E (.any ops M LBR LX (listed.setIfInBounds i true) p1 :: k) l' Rs') (hj : vcDo E.tab E.N E.w0.heap.size l Rs oj (fun l' Rs' => (∃ R, Rs' = R :: Rs) ∧ Go E (.any ops M LBR LX (listed.setIfInBounds j true) p2 :: k) l' Rs') False) (ht : TabOk E.P E.tab) :
    Go E (.any ops M LBR LX listed p :: k) l Rs :=
  Go_fork (Ki := fun l' Rs' => Go E (.any ops M LBR LX (listed.setIfInBounds i true) p1 :: k) l' Rs') (Kj := fun l' Rs' => (∃ R, Rs' = R :: Rs) ∧ Go E (.any ops M LBR LX (listed.setIfInBounds j true) p2 :: k) l' Rs') i j p1 p2 hr n1 n2 c1 c2 hoi hoj gi gj (.inl mi)
    (.inr fun l' Rs' ⟨⟨R, h⟩, _⟩ w hm hio => sj R w (h ▸ hm) hio) hi (OpTo_do ht hj) (fun _ _ h => h) (fun _ _ h => h.2)

/-- An operation alone; the condition is shown anew. -/
theorem Go_aloneL {E : Env} {ops : Array Oper} {M : List Nat} {LBR : List Res} {LX : World → Prop} {listed : Array Bool} {i : Nat} {r : List (Nat × Bool)} {o : Oper} {k : List KI} {l : L} {Rs : List Res}
    (ho : nth ops.toList i = some o) (hg : wantB ops.toList l o = true) (h : OpTo E l Rs o fun l' Rs' => (∀ w, Mod E.hfs Rs' w → Oth E.w0 w → LBof LBR LX w) ∧ Go E (.any ops M LBR LX (listed.setIfInBounds i true) r :: k) l' Rs') :
    Go E (.any ops M LBR LX listed ((i, true) :: r) :: k) l Rs :=
  Go_alone ho hg (.inr fun _ _ h w => h.1 w) h fun _ _ h => h.2
theorem Mod.blk_behind {hfs : List PH} {Rs Rr : List Res} {w : World} (hm : Mod hfs (Rs ++ Rr) w) {i b : Nat} {T : TypeId} {cs : List Value} (hi : Rr[i]? = some (.blk b T cs)) : w.heap[b]? = some (.cells cs.toArray T (0, 0)) :=
  hm.blk_at (i := Rs.length + i) (by rw [getElem?_append_add]; exact hi)
theorem Mod.own_behind {α : Type} {enc : α → List Value} {k : Nat} {T : TypeId} {A : Option Addr} {c : Nat} {xs : List α} {hfs : List PH} {Rs Rr : List Res} {w : World} (hm : Mod hfs (Rs ++ Rr) w) {i : Nat} (hi : Rr[i]? = some (own enc k T A c xs)) : RdW w A (xs.flatMap enc) :=
  hm.own_rd (i := Rs.length + i) (by rw [getElem?_append_add]; exact hi)
theorem Mod.ro_behind {hfs : List PH} {Rs Rr : List Res} {w : World} (hm : Mod hfs (Rs ++ Rr) w) {i : Nat} {L : List (Option Addr × List Value)} (hi : Rr[i]? = some (ro L)) {A : Option Addr} {cs : List Value} (h : (A, cs) ∈ L) : RdW w A cs :=
  hm.ro_rd (i := Rs.length + i) (by rw [getElem?_append_add]; exact hi) h

theorem Holds.of_idx {hfs : List PH} {w : World} {Rs : List Res} (js : List Nat) (hm : Mod hfs Rs w) : Holds (selG js Rs) w :=
  Holds.of_mod hm fun R hR => by
    obtain ⟨i, _, h⟩ := selG_mem hR
    exact List.mem_of_getElem? h

/-! ### an operation on two values, by a law of its own -/
theorem bin_exec {E : Env} {l : L} {o : Oper} {op : BinOp} {t u : TypeId} {x y : Operand} {s s2 : SV} {v : Value} (ho : o.op = .binOp op t x y u) (hx : ev l x = some s) (hy : ev l y = some s2) (hrun : ∀ w, (binRun op t x y s.val s2.val).run E.P w = .ok v w)
    (a : Act) (hf : Fr E.N a l) (w : World) : (execOp a.eval o).run E.P w = .ok (.value v) w := by
  have := hrun w
  simp only [binRun] at this
  simp only [execOp, ho, ev_sound hf hx, ev_sound hf hy]
  rw [Sem.run_bind, this]
  rfl

theorem OpTo_bin {E : Env} {l : L} {Rs : List Res} {o : Oper} {K : L → List Res → Prop} {op : BinOp} {t u : TypeId} {x y : Operand} {s s2 : SV} (v : Value) (ho : o.op = .binOp op t x y u) (hx : ev l x = some s) (hy : ev l y = some s2)
    (hrun : ∀ w, (binRun op t x y s.val s2.val).run E.P w = .ok v w) (hK : setd E.N o.dst (.v v) l fun l' => K l' Rs) : OpTo E l Rs o K :=
  OpTo_run (Qo := fun u Rs' => u = v ∧ Rs' = Rs) (fun a w hf hm _ => ⟨v, Rs, w, bin_exec ho hx hy hrun a hf w, ⟨rfl, rfl⟩, hm, Oth.refl w⟩) (fun u Rs' ⟨h1, h2⟩ => by subst h1 h2; exact hK)

theorem Go_firstB {E : Env} {ops : Array Oper} {M : List Nat} {LBR : List Res} {LX : World → Prop} {listed : Array Bool} {i : Nat} {r : List (Nat × Bool)} {o : Oper} {k : List KI} {l : L} {Rs : List Res} {op : BinOp} {t u : TypeId} {x y : Operand} {s s2 : SV} (v : Value)
    (ho : nth ops.toList i = some o) (hop : o.op = .binOp op t x y u) (hg : wantB ops.toList l o = true) (hx : ev l x = some s) (hy : ev l y = some s2) (hrun : ∀ w, (binRun op t x y s.val s2.val).run E.P w = .ok v w)
    (hK : setd E.N o.dst (.v v) l fun l' => Go E (.any ops M LBR LX (listed.setIfInBounds i true) r :: k) l' Rs) : Go E (.any ops M LBR LX listed ((i, false) :: r) :: k) l Rs := by
  intro a w hf hm hio hc hs hst hcl hS0
  have ho' : ops[i]? = some o := by rw [nth_eq] at ho; simpa using ho
  obtain ⟨l2, m1, m2⟩ := setd_sound hK hf
  exact any_first ho' hc hs hst hcl hS0 (.inl (.inl ⟨wantB_sound hf hg, fun w' _ => bin_exec hop hx hy hrun a hf w'⟩)) (m1 _ w m2 hm hio)

end Go.RX

/- RX, part 13: what a function value answers; the first one of which something holds. -/
set_option autoImplicit false
set_option linter.unusedVariables false
set_option linter.unusedSimpArgs false
namespace Go.RX
open Go Go.RowKit

/-- What a function value answers of some values, in every world that is behind 'w0'. -/
def Answers {α : Type} (P : Program) (w0 : World) (f : FuncId) (first cap : Array Value) (mk : α → Value) (p : α → Bool) (xs : List α) : Prop :=
  ∀ x ∈ xs, ∀ w, BelowD w0.heap.size w0 w → Calls P f (first.toList ++ [mk x] ++ cap.toList).toArray w fun e w' => e = .returned (.bool (p x)) ∧ BelowD w.heap.size w w'

/-- The same, as long as the frame's memory stands. -/
def AnswersM {α : Type} (P : Program) (hfs : List PH) (f : FuncId) (first cap : Array Value) (mk : α → Value) (p : α → Bool) (xs : List α) : Prop :=
  ∀ x ∈ xs, ∀ Rs w, Mod hfs Rs w → Calls P f (first.toList ++ [mk x] ++ cap.toList).toArray w fun e w' => e = .returned (.bool (p x)) ∧ BelowD w.heap.size w w'

theorem AnswersM.answers {α : Type} {P : Program} {hfs : List PH} {f : FuncId} {first cap : Array Value} {mk : α → Value} {p : α → Bool} {xs : List α} (h : AnswersM P hfs f first cap mk p xs) {Rs : List Res} {w0 : World} (hm : Mod hfs Rs w0) : Answers P w0 f first cap mk p xs :=
  fun x hx w hb => h x hx Rs w (hm.keep fun n hn => hb.block n hn)

theorem Answers.below {α : Type} {P : Program} {w0 w : World} {f : FuncId} {first cap : Array Value} {mk : α → Value} {p : α → Bool} {xs : List α} (h : Answers P w0 f first cap mk p xs) (hb : BelowD w0.heap.size w0 w) : Answers P w f first cap mk p xs :=
  fun x hx w2 h2 => h x hx w2 (hb.trans (h2.mono hb.size))

/-- The place of the first one; -1: of none. -/
def idxF {α : Type} (p : α → Bool) : List α → Int
  | [] => -1
  | z :: r => if p z = true then 0 else if idxF p r = -1 then -1 else idxF p r + 1

theorem idxF_spec {α : Type} (p : α → Bool) : ∀ (zs : List α), (idxF p zs = -1 ∧ ∀ z ∈ zs, p z = false) ∨ ∃ (i : Nat) (h : i < zs.length), idxF p zs = i ∧ p zs[i] = true ∧ ∀ z ∈ zs.take i, p z = false
  | [] => .inl ⟨rfl, by simp⟩
  | z :: r => by
    cases h : p z with
    | true => exact .inr ⟨0, by simp, by simp [idxF, h], by simpa using h, by simp⟩
    | false =>
      rcases idxF_spec p r with ⟨h1, h2⟩ | ⟨i, hi, h1, h2, h3⟩
      · exact .inl ⟨by simp [idxF, h, h1], by simpa [h] using h2⟩
      · refine .inr ⟨i + 1, by simpa using hi, ?_, by simpa using h2, ?_⟩
        · simp only [idxF, h, h1]
          rw [if_neg (by simp), if_neg (by omega)]; omega
        · simpa [h] using h3

theorem idxF_at {α : Type} (p : α → Bool) (zs : List α) (i : Nat) (h : i < zs.length) (e : p zs[i] = true) (hne : ∀ j (h : j < zs.length), j < i → p zs[j] = false) : idxF p zs = i := by
  rcases idxF_spec p zs with ⟨_, h2⟩ | ⟨k, hk, h1, h2, h3⟩
  · rw [h2 _ (List.getElem_mem h)] at e; cases e
  · rw [h1]
    rcases Nat.lt_trichotomy k i with hlt | rfl | hlt
    · rw [hne k hk hlt] at h2; cases h2
    · rfl
    · have := h3 zs[i] (List.mem_take_iff_getElem.2 ⟨i, by omega, rfl⟩)
      rw [this] at e; cases e
theorem idxF_none {α : Type} (p : α → Bool) (zs : List α) (hne : ∀ j (h : j < zs.length), p zs[j] = false) : idxF p zs = -1 := by
  rcases idxF_spec p zs with ⟨h1, _⟩ | ⟨k, hk, h1, h2, h3⟩
  · exact h1
  · rw [hne k hk] at h2; cases h2
theorem idxF_any {α : Type} (p : α → Bool) (zs : List α) : decide (0 ≤ idxF p zs) = zs.any p := by
  rcases idxF_spec p zs with ⟨h1, h2⟩ | ⟨k, hk, h1, h2, h3⟩
  · rw [h1]
    symm
    simp only [show decide ((0 : Int) ≤ -1) = false from rfl, List.any_eq_false]
    intro z hz; simp [h2 z hz]
  · rw [h1]
    symm
    rw [decide_eq_true (by omega)]
    exact List.any_eq_true.2 ⟨zs[k], List.getElem_mem hk, h2⟩

/-! ### one by one let go -/
/-- A row in the midst of it: 'j' are looked at; those that stay stand first. -/
structure Sift {α : Type} (q : α → Bool) (xs ys : List α) (j : Nat) : Prop where
  len : ys.length = xs.length
  le : j ≤ xs.length
  front : ys.take ((xs.take j).filter q).length = (xs.take j).filter q
  back : ys.drop j = xs.drop j

theorem filter_take_le {α : Type} (q : α → Bool) (xs : List α) (j : Nat) : ((xs.take j).filter q).length ≤ j := Nat.le_trans (List.length_filter_le _ _) (by simp; omega)

theorem Sift.at_ {α : Type} {q : α → Bool} {xs ys : List α} {j : Nat} (h : Sift q xs ys j) (hj : j < xs.length) : ys[j]? = some xs[j] := by
  have e : (ys.drop j)[0]? = (xs.drop j)[0]? := by rw [h.back]
  simpa [hj] using e

theorem Sift.start {α : Type} {p : α → Bool} {xs : List α} {i : Nat} (hi : i < xs.length) (hp : p xs[i] = true) (hne : ∀ z ∈ xs.take i, p z = false) : Sift (fun x => !p x) xs xs (i + 1) ∧ (xs.take (i + 1)).filter (fun x => !p x) = xs.take i := by
  have e : (xs.take (i + 1)).filter (fun x => !p x) = xs.take i := by
    rw [List.take_succ_eq_append_getElem hi, List.filter_append, List.filter_eq_self.2 fun a ha => by simp [hne a ha]]
    simp [hp]
  exact ⟨⟨rfl, hi, by rw [e]; simp [Nat.min_eq_left (Nat.le_of_lt hi)], rfl⟩, e⟩

theorem Sift.skip {α : Type} {q : α → Bool} {xs ys : List α} {j : Nat} (h : Sift q xs ys j) (hj : j < xs.length) (hq : q xs[j] = false) : Sift q xs ys (j + 1) ∧ (xs.take (j + 1)).filter q = (xs.take j).filter q := by
  have e : (xs.take (j + 1)).filter q = (xs.take j).filter q := by
    rw [List.take_succ_eq_append_getElem hj, List.filter_append]; simp [hq]
  refine ⟨⟨h.len, hj, by rw [e]; exact h.front, ?_⟩, e⟩
  have := congrArg (List.drop 1) h.back
  simpa [List.drop_drop, Nat.add_comm] using this

theorem Sift.keep {α : Type} {q : α → Bool} {xs ys : List α} {j : Nat} (h : Sift q xs ys j) (hj : j < xs.length) (hq : q xs[j] = true) : Sift q xs (ys.set ((xs.take j).filter q).length xs[j]) (j + 1) ∧ (xs.take (j + 1)).filter q = (xs.take j).filter q ++ [xs[j]] := by
  have e : (xs.take (j + 1)).filter q = (xs.take j).filter q ++ [xs[j]] := by
    rw [List.take_succ_eq_append_getElem hj, List.filter_append]; simp [hq]
  have hle := filter_take_le q xs j
  refine ⟨⟨by simpa using h.len, hj, ?_, ?_⟩, e⟩
  · rw [e, List.length_append]
    have hl : ((xs.take j).filter q).length < ys.length := by rw [h.len]; omega
    simp only [List.length_cons, List.length_nil, Nat.zero_add]
    rw [List.take_succ_eq_append_getElem (by simpa using hl)]
    simp only [List.getElem_set_self]
    rw [List.take_set_of_le (Nat.le_refl _), h.front]
  · rw [List.drop_set_of_lt (by omega)]
    have := congrArg (List.drop 1) h.back
    simpa [List.drop_drop, Nat.add_comm] using this

theorem Sift.done {α : Type} {q : α → Bool} {xs ys : List α} {j : Nat} (h : Sift q xs ys j) (hj : ¬ j < xs.length) : ys.take (xs.filter q).length = xs.filter q ∧ (xs.take j).filter q = xs.filter q := by
  have e : xs.take j = xs := List.take_of_length_le (by omega)
  have := h.front
  rw [e] at this
  exact ⟨this, by rw [e]⟩

theorem find_none {α : Type} {p : α → Bool} {zs : List α} (h : ∀ z ∈ zs, p z = false) : zs.find? p = none := by
  rw [List.find?_eq_none]; intro x hx; simp [h x hx]
theorem find_of {α : Type} {p : α → Bool} : ∀ {zs : List α} {i : Nat} (hi : i < zs.length), p zs[i] = true → (∀ z ∈ zs.take i, p z = false) → zs.find? p = some zs[i]
  | z :: r, 0, _, h, _ => by simp at h; simp [h]
  | z :: r, i + 1, hi, h, hne => by
    have h0 : p z = false := hne z (by simp)
    have := find_of (zs := r) (i := i) (by simpa using hi) (by simpa using h) (fun y hy => hne y (by simp [hy]))
    simp [h0, this]
theorem blk_below {w w2 : World} (hb : BelowD w.heap.size w w2) {b : Nat} {o : Obj} (h : w.heap[b]? = some o) : w2.heap[b]? = some o :=
  (hb.block b (Array.getElem?_eq_some_iff.1 h).1).trans h

end Go.RX

/- RX, part 14: maps. -/
set_option autoImplicit false
set_option linter.unusedVariables false
set_option linter.unusedSimpArgs false
namespace Go.RX
open Go Go.RowKit

/-- A map that is owned: its entries in order, and the number that the next one gets. -/
def MapS (b : Nat) (es : List MapEntry) (clock : Nat) : HP := fun h => h = one b (.map es.toArray clock)
abbrev mapR (b : Nat) (es : List MapEntry) (clock : Nat) : Res := .hp (MapS b es clock)

theorem Mod.map_at {hfs : List PH} {Rs : List Res} {w : World} {i b : Nat} {es : List MapEntry} {clock : Nat} (hm : Mod hfs Rs w) (hi : Rs[i]? = some (mapR b es clock)) : w.heap[b]? = some (.map es.toArray clock) := by
  obtain ⟨h, h1, h2⟩ := hm.get hi
  cases h1
  exact h2 _ _ (one_same _ _)

theorem Mod.setMap {hfs : List PH} {Rs : List Res} {w w' : World} {i b : Nat} {es es' : List MapEntry} {clock clock' : Nat} (hm : Mod hfs Rs w) (hi : Rs[i]? = some (mapR b es clock))
    (hb : w'.heap[b]? = some (.map es'.toArray clock')) (hk : ∀ n, n ≠ b → w'.heap[n]? = w.heap[n]?) : Mod hfs (Rs.set i (mapR b es' clock')) w' :=
  hm.turn hi fun h h1 _ => by
    cases h1
    refine ⟨_, rfl, Sub.one hb, fun n _ hn => ?_⟩
    have hne : n ≠ b := fun e => by subst e; rw [one_same] at hn; cases hn
    exact ⟨hk n hne, one_ne _ hne⟩

theorem OpTo_makeMap {E : Env} {l : L} {Rs : List Res} {o : Oper} {K : L → List Res → Prop} {T : TypeId} (ho : o.op = .makeMap T none)
    (hK : ∀ b, E.w0.heap.size ≤ b → setd E.N o.dst (.v (.map (some b))) l fun l' => K l' (mapR b [] 0 :: Rs)) : OpTo E l Rs o K := by
  intro a w hf hm hio
  obtain ⟨l', k1, k2⟩ := setd_sound (hK w.heap.size hio.size) hf
  unfold Oper.wp
  have hrun : (execOp a.eval o).run E.P w = .ok (.value (.map (some w.heap.size))) { w with heap := w.heap.push (.map #[] 0) } := by
    simp only [execOp, ho]
    rfl
  rw [hrun]
  exact ⟨l', _, k1, k2, hm.add (h := one w.heap.size (.map #[] 0)) (fun n hn => by simp [Array.getElem?_push, Nat.ne_of_lt hn]) rfl (fun n hn => one_ne _ (Nat.ne_of_lt hn)) (Sub.one (by simp)), hio.trans (Oth.push w _)⟩

/-! ### maps of plain keys, typed -/
/-- How a key is a value, and of which type. -/
structure KeyOk {κ : Type} [DecidableEq κ] (P : Program) (t : TypeId) (kE : κ → Value) : Prop where
  desc : ∃ d, P.underlying t = some d ∧ (∀ a b, Instr.sameNow d (kE a) (kE b) = some (decide (a = b))) ∧ ∀ a, MapKept.IsKey d (kE a)

theorem keyOk_int {P : Program} {tab : Tab} (ht : TabOk P tab) {t : TypeId} {k : IntKind} (h : kindIs tab t = some (.int k)) : KeyOk P t (Value.int k) := by
  obtain ⟨d, hd, hk⟩ := kind_spec ht h
  simp only [TK.ok] at hk; subst hk
  refine ⟨_, hd, fun a b => ?_, fun a => rfl⟩
  simp only [Instr.sameNow, if_true]
  congr 1

theorem bytes_decide (a b : ByteArray) : (a == b) = decide (a = b) := by
  obtain ⟨⟨x⟩⟩ := a
  obtain ⟨⟨y⟩⟩ := b
  show ((⟨x⟩ : Array UInt8) == ⟨y⟩) = _
  by_cases h : x = y
  · subst h; simp
  · simp [h]

theorem keyOk_str {P : Program} {tab : Tab} (ht : TabOk P tab) {t : TypeId} (h : kindIs tab t = some .str) : KeyOk P t Value.string := by
  obtain ⟨d, hd, hk⟩ := kind_spec ht h
  simp only [TK.ok] at hk; subst hk
  refine ⟨_, hd, fun a b => ?_, fun a => trivial⟩
  simp only [Instr.sameNow, bytes_decide]

section
variable {κ ν : Type}
abbrev keys (al : List (κ × ν)) : List κ := al.map (·.1)
def entV (kE : κ → Value) (vE : ν → Value) (e : (κ × ν) × Nat) : MapEntry := { key := kE e.1.1, val := vE e.1.2, born := e.2 }

/-- A map's entries, each with its own number; no key twice. -/
structure EntOk (es : List ((κ × ν) × Nat)) (clock : Nat) : Prop where
  keys : (keys (es.map (·.1))).Nodup
  born : es.Pairwise fun a b => a.2 < b.2
  low : ∀ e ∈ es, e.2 < clock

theorem EntOk.nil : EntOk ([] : List ((κ × ν) × Nat)) 0 := ⟨by simp, by simp, by simp⟩
theorem EntOk.push {es : List ((κ × ν) × Nat)} {clock : Nat} (h : EntOk es clock) {k : κ} (v : ν) (hk : k ∉ RX.keys (es.map (·.1))) : EntOk (es ++ [((k, v), clock)]) (clock + 1) := by
  refine ⟨?_, ?_, ?_⟩
  · have : RX.keys ((es ++ [((k, v), clock)]).map (·.1)) = RX.keys (es.map (·.1)) ++ [k] := by simp [RX.keys]
    rw [this]
    refine List.nodup_append.2 ⟨h.keys, by simp, fun a ha b hb => ?_⟩
    simp at hb; subst hb
    exact fun e => hk (e ▸ ha)
  · refine List.pairwise_append.2 ⟨h.born, by simp, fun a ha b hb => ?_⟩
    simp at hb; subst hb
    exact h.low a ha
  · intro e he
    rcases List.mem_append.1 he with he | he
    · have := h.low e he; omega
    · simp at he; subst he; simp

theorem map_snd_modify {es : List ((κ × ν) × Nat)} {f : (κ × ν) × Nat → (κ × ν) × Nat} (hf : ∀ e, (f e).2 = e.2) (j : Nat) : (es.modify j f).map (·.2) = es.map (·.2) := by
  apply List.ext_getElem?
  intro i
  simp only [List.getElem?_map, List.getElem?_modify]
  cases es[i]? with
  | none => rfl
  | some e => by_cases h : j = i <;> simp [h, hf]

theorem EntOk.erase {es : List ((κ × ν) × Nat)} {clock : Nat} (h : EntOk es clock) (j : Nat) : EntOk (es.eraseIdx j) clock := by
  have hs := List.eraseIdx_sublist es j
  refine ⟨h.keys.sublist ((hs.map _).map _), h.born.sublist hs, fun e he => h.low e (hs.subset he)⟩

/-- A map that is owned. -/
def MpS (kE : κ → Value) (vE : ν → Value) (b : Nat) (al : List (κ × ν)) : HP := fun h => ∃ es clock, h = one b (.map (es.map (entV kE vE)).toArray clock) ∧ es.map (·.1) = al ∧ EntOk es clock
abbrev mpR (kE : κ → Value) (vE : ν → Value) (b : Nat) (al : List (κ × ν)) : Res := .hp (MpS kE vE b al)

section
variable {kE : κ → Value} {vE : ν → Value} {hfs : List PH} {Rs : List Res} {w : World} {i b : Nat} {al : List (κ × ν)}

theorem Mod.mp_nodup (hm : Mod hfs Rs w) (hi : Rs[i]? = some (mpR kE vE b al)) : (keys al).Nodup := by
  obtain ⟨h, ⟨es, clock, _, h2, h3⟩, _⟩ := hm.get hi
  rw [← h2]; exact h3.keys

theorem Mod.mp_at (hm : Mod hfs Rs w) (hi : Rs[i]? = some (mpR kE vE b al)) : ∃ es clock, w.heap[b]? = some (.map (es.map (entV kE vE)).toArray clock) ∧ es.map (·.1) = al ∧ EntOk es clock := by
  obtain ⟨h, ⟨es, clock, h1, h2, h3⟩, h4⟩ := hm.get hi
  exact ⟨es, clock, h4 _ _ (by rw [h1]; exact one_same _ _), h2, h3⟩

theorem Mod.mp_set (hm : Mod hfs Rs w) (hi : Rs[i]? = some (mpR kE vE b al)) {es' : List ((κ × ν) × Nat)} {clock' : Nat} {al' : List (κ × ν)} (he : es'.map (·.1) = al') (ho : EntOk es' clock') :
    Mod hfs (Rs.set i (mpR kE vE b al')) { w with heap := w.heap.setIfInBounds b (.map (es'.map (entV kE vE)).toArray clock') } :=
  hm.turn hi fun h ⟨es, clock, h1, h2, h3⟩ h4 => by
    subst h1
    have hb : w.heap[b]? = some _ := h4 _ _ (one_same _ _)
    refine ⟨one b (.map (es'.map (entV kE vE)).toArray clock'), ⟨es', clock', rfl, he, ho⟩, Sub.one (MapKept.heap_set hb).1, fun n _ hn => ?_⟩
    have hne : n ≠ b := fun e => by subst e; rw [one_same] at hn; cases hn
    exact ⟨(MapKept.heap_set hb).2 n hne, one_ne _ hne⟩

theorem Oth.setAt (w : World) (b : Nat) (o : Obj) : Oth w { w with heap := w.heap.setIfInBounds b o } := ⟨rfl, rfl, rfl, by simp, Nat.le_refl _⟩

theorem entV_modify (es : List ((κ × ν) × Nat)) (j : Nat) (k : κ) (v : ν) : (es.map (entV kE vE)).toArray.modify j (fun e => { e with key := kE k, val := vE v }) = ((es.modify j fun e => ((k, v), e.2)).map (entV kE vE)).toArray := by
  apply Array.toList_inj.1
  apply List.ext_getElem?
  intro n
  simp only [Array.toList_modify, List.getElem?_modify, List.getElem?_map]
  cases es[n]? with
  | none => rfl
  | some e => by_cases h : j = n <;> simp [h, entV]
end


theorem map_eraseIdx' {α β : Type} (f : α → β) : ∀ (es : List α) (j : Nat), (es.map f).eraseIdx j = (es.eraseIdx j).map f
  | [], j => by simp
  | e :: r, 0 => rfl
  | e :: r, j + 1 => by simp [map_eraseIdx' f r j]
section
variable {E : Env} {l : L} {Rs : List Res} {o : Oper} {K : L → List Res → Prop} {kE : κ → Value} {vE : ν → Value}
theorem kind_map {P : Program} {tab : Tab} (ht : TabOk P tab) {t kt et : TypeId} (h : kindIs tab t = some (.map kt et)) : P.underlying t = some (.map kt et) := by
  obtain ⟨d, hd, hk⟩ := kind_spec ht h
  simp only [TK.ok] at hk; subst hk; exact hd

theorem OpTo_mapLen (ht : TabOk E.P E.tab) {T kt et : TypeId} {x : Operand} {b : Nat} {al : List (κ × ν)} (i : Nat) (ho : o.op = .call { callee := .builtin .len, args := #[x], argTypes := #[T] }) (hx : ev l x = some (.v (.map (some b))))
    (hT : kindIs E.tab T = some (.map kt et)) (hi : Rs[i]? = some (mpR kE vE b al)) (hK : setd E.N o.dst (.v (.int .i64 al.length)) l fun l' => K l' Rs) : OpTo E l Rs o K :=
  OpTo_run (Qo := fun v Rs' => v = .int .i64 al.length ∧ Rs' = Rs)
    (fun a w hf hm hio => by
      obtain ⟨es, clock, h1, h2, h3⟩ := hm.mp_at hi
      have hu := run_underlying' (w := w) (kind_map ht hT)
      refine ⟨_, Rs, w, ?_, ⟨rfl, rfl⟩, hm, Oth.refl w⟩
      subst h2
      simp [execOp, ho, ev_sound hf hx, SV.val, resolve, invoke, builtin, Builtin.len_, hu, MapKept.run_getObj_map h1, goInt])
    (fun u Rs' ⟨h1, h2⟩ => by subst h1 h2; exact hK)

theorem OpTo_makeMp {T : TypeId} (ho : o.op = .makeMap T none) (hK : ∀ b, E.w0.heap.size ≤ b → setd E.N o.dst (.v (.map (some b))) l fun l' => K l' (mpR kE vE b [] :: Rs)) : OpTo E l Rs o K := by
  intro a w hf hm hio
  obtain ⟨l', k1, k2⟩ := setd_sound (hK w.heap.size hio.size) hf
  unfold Oper.wp
  have hrun : (execOp a.eval o).run E.P w = .ok (.value (.map (some w.heap.size))) { w with heap := w.heap.push (.map #[] 0) } := by
    simp only [execOp, ho]
    rfl
  rw [hrun]
  exact ⟨l', _, k1, k2, hm.add (h := one w.heap.size (.map #[] 0)) (fun n hn => by simp [Array.getElem?_push, Nat.ne_of_lt hn]) ⟨[], 0, rfl, rfl, EntOk.nil⟩ (fun n hn => one_ne _ (Nat.ne_of_lt hn)) (Sub.one (by simp)), hio.trans (Oth.push w _)⟩

def mapAns (ok : Bool) (zero : Value) (vE : ν → Value) (r : Option ν) : Value := match ok with
  | true => .tuple #[(r.map vE).getD zero, .bool r.isSome]
  | false => (r.map vE).getD zero

end
end

section
variable {κ ν : Type} [DecidableEq κ]

def aget (k : κ) : List (κ × ν) → Option ν
  | [] => none
  | p :: r => if p.1 = k then some p.2 else aget k r
def aset (k : κ) (v : ν) : List (κ × ν) → List (κ × ν)
  | [] => [(k, v)]
  | p :: r => if p.1 = k then (k, v) :: r else p :: aset k v r
def adel (k : κ) : List (κ × ν) → List (κ × ν)
  | [] => []
  | p :: r => if p.1 = k then r else p :: adel k r

theorem aget_none {k : κ} : ∀ {al : List (κ × ν)}, aget k al = none ↔ k ∉ keys al
  | [] => by simp [aget]
  | p :: r => by
    simp only [aget, keys, List.map_cons, List.mem_cons, not_or]
    by_cases h : p.1 = k
    · simp [h]
    · simp only [if_neg h]
      rw [aget_none]
      exact ⟨fun hh => ⟨fun e => h e.symm, hh⟩, fun hh => hh.2⟩
theorem aget_mem {k : κ} {v : ν} : ∀ {al : List (κ × ν)}, aget k al = some v → (k, v) ∈ al
  | [], h => by simp [aget] at h
  | p :: r, h => by
    simp only [aget] at h
    split at h
    · rename_i hk; cases h; subst hk; simp
    · exact List.mem_cons_of_mem _ (aget_mem h)
theorem aget_of_mem {k : κ} {v : ν} : ∀ {al : List (κ × ν)}, (keys al).Nodup → (k, v) ∈ al → aget k al = some v
  | p :: r, hn, h => by
    simp only [keys, List.map_cons, List.nodup_cons] at hn
    simp only [aget]
    rcases List.mem_cons.1 h with h | h
    · subst h; simp
    · have : p.1 ≠ k := fun e => hn.1 (e ▸ List.mem_map.2 ⟨_, h, rfl⟩)
      rw [if_neg this]
      exact aget_of_mem hn.2 h
theorem aset_new {k : κ} {v : ν} : ∀ {al : List (κ × ν)}, k ∉ keys al → aset k v al = al ++ [(k, v)]
  | [], _ => rfl
  | p :: r, h => by
    simp only [keys, List.map_cons, List.mem_cons, not_or] at h
    simp only [aset, if_neg (Ne.symm h.1), List.cons_append]
    rw [aset_new h.2]
theorem aset_keys {k : κ} {v : ν} : ∀ {al : List (κ × ν)}, k ∈ keys al → keys (aset k v al) = keys al
  | p :: r, h => by
    simp only [aset]
    split
    · rename_i hk; subst hk; simp [keys]
    · rename_i hk
      simp only [keys, List.map_cons, List.mem_cons] at h ⊢
      rcases h with h | h
      · exact absurd h.symm hk
      · exact congrArg _ (aset_keys h)
theorem aget_aset {k k' : κ} {v : ν} : ∀ {al : List (κ × ν)}, aget k' (aset k v al) = if k = k' then some v else aget k' al
  | [] => by simp [aset, aget]
  | p :: r => by
    simp only [aset]
    by_cases h : p.1 = k
    · rw [if_pos h]
      simp only [aget]
      by_cases h2 : k = k'
      · simp [h2]
      · simp [h2, h]
    · rw [if_neg h]
      simp only [aget, aget_aset]
      by_cases h2 : k = k'
      · subst h2; simp [h]
      · simp [h2]
theorem aset_nodup {k : κ} {v : ν} {al : List (κ × ν)} (h : (keys al).Nodup) : (keys (aset k v al)).Nodup := by
  by_cases hk : k ∈ keys al
  · rw [aset_keys hk]; exact h
  · rw [aset_new hk]
    simp only [keys, List.map_append, List.map_cons, List.map_nil]
    refine List.nodup_append.2 ⟨h, by simp, fun a ha b hb => ?_⟩
    simp at hb; subst hb
    exact fun e => hk (e ▸ ha)
theorem adel_sub {k : κ} : ∀ (al : List (κ × ν)), (adel k al).Sublist al
  | [] => List.Sublist.refl _
  | p :: r => by
    simp only [adel]
    split
    · exact List.sublist_cons_self _ _
    · exact (adel_sub r).cons_cons _
theorem adel_nodup {k : κ} {al : List (κ × ν)} (h : (keys al).Nodup) : (keys (adel k al)).Nodup := h.sublist ((adel_sub al).map _)
theorem adel_none {k : κ} : ∀ {al : List (κ × ν)}, k ∉ keys al → adel k al = al
  | [], _ => rfl
  | p :: r, h => by
    simp only [keys, List.map_cons, List.mem_cons, not_or] at h
    simp only [adel, if_neg (Ne.symm h.1)]
    rw [adel_none h.2]
theorem adel_filter {k : κ} : ∀ {al : List (κ × ν)}, (keys al).Nodup → adel k al = al.filter fun p => !decide (p.1 = k)
  | [], _ => rfl
  | p :: r, h => by
    simp only [keys, List.map_cons, List.nodup_cons] at h
    simp only [adel]
    split
    · rename_i hk
      rw [List.filter_cons_of_neg (by simp [hk])]
      symm
      refine List.filter_eq_self.2 fun q hq => ?_
      have : q.1 ≠ k := fun e => h.1 (hk ▸ e ▸ List.mem_map.2 ⟨q, hq, rfl⟩)
      simp [this]
    · rename_i hk
      rw [List.filter_cons_of_pos (by simp [hk]), adel_filter h.2]
theorem aget_adel {k k' : κ} {al : List (κ × ν)} (h : (keys al).Nodup) : aget k' (adel k al) = if k = k' then none else aget k' al := by
  induction al with
  | nil => simp [adel, aget]
  | cons p r ih =>
    simp only [keys, List.map_cons, List.nodup_cons] at h
    simp only [adel]
    by_cases hp : p.1 = k
    · rw [if_pos hp]
      by_cases h2 : k = k'
      · subst h2
        rw [if_pos rfl]
        exact aget_none.2 (hp ▸ h.1)
      · rw [if_neg h2]
        simp only [aget]
        rw [if_neg (fun e => h2 (hp ▸ e))]
    · rw [if_neg hp]
      simp only [aget, ih h.2]
      by_cases h2 : k = k'
      · subst h2; simp [hp]
      · simp [h2]

/-! #### entries -/
def mfind (k : κ) : List ((κ × ν) × Nat) → Nat → Option (Nat × ν)
  | [], _ => none
  | e :: r, i => if k = e.1.1 then some (i, e.1.2) else mfind k r (i + 1)

theorem findNow_mfind {d : TypeDesc} {kE : κ → Value} {vE : ν → Value} (hs : ∀ a b, Instr.sameNow d (kE a) (kE b) = some (decide (a = b))) (k : κ) : ∀ (es : List ((κ × ν) × Nat)) (i : Nat),
    Instr.findNow d (kE k) (es.map (entV kE vE)) i = some ((mfind k es i).map fun p => (p.1, vE p.2))
  | [], i => rfl
  | e :: r, i => by
    simp only [List.map_cons, Instr.findNow, entV, hs, mfind]
    by_cases h : k = e.1.1
    · simp [h]
    · simp only [h, decide_false, if_neg, not_false_eq_true]
      exact findNow_mfind hs k r (i + 1)

theorem mfind_spec (k : κ) : ∀ (es : List ((κ × ν) × Nat)) (i : Nat), (mfind k es i = none ∧ k ∉ keys (es.map (·.1))) ∨
    ∃ j v, mfind k es i = some (i + j, v) ∧ aget k (es.map (·.1)) = some v ∧ (∃ e, es[j]? = some e ∧ e.1.1 = k) ∧ (∀ u, (es.modify j fun e => ((k, u), e.2)).map (·.1) = aset k u (es.map (·.1))) ∧ (es.eraseIdx j).map (·.1) = adel k (es.map (·.1))
  | [], i => .inl ⟨rfl, by simp⟩
  | e :: r, i => by
    simp only [mfind]
    by_cases h : k = e.1.1
    · subst h
      refine .inr ⟨0, e.1.2, by simp, by simp [aget], ⟨e, by simp, rfl⟩, fun u => by simp [aset, List.modify], by simp [adel]⟩
    · rw [if_neg h]
      have h' : ¬ e.1.1 = k := fun hh => h hh.symm
      rcases mfind_spec k r (i + 1) with ⟨h1, h2⟩ | ⟨j, v, h1, h2, h3, h4, h5⟩
      · exact .inl ⟨h1, by simp only [keys, List.map_cons, List.mem_cons, not_or]; exact ⟨h, h2⟩⟩
      · refine .inr ⟨j + 1, v, by rw [h1]; congr 2; omega, by simp [aget, h', h2], by simpa using h3, fun u => ?_, ?_⟩
        · simp only [List.map_cons, aset, if_neg h']
          rw [← h4 u]; simp [List.modify]
        · simp only [List.eraseIdx_cons_succ, List.map_cons, adel, if_neg h']
          rw [h5]

theorem EntOk.modify {es : List ((κ × ν) × Nat)} {clock : Nat} (h : EntOk es clock) {k : κ} {v : ν} {j : Nat} (hj : (es.modify j fun e => ((k, v), e.2)).map (·.1) = aset k v (es.map (·.1))) : EntOk (es.modify j fun e => ((k, v), e.2)) clock := by
  have hm := map_snd_modify (es := es) (f := fun e => ((k, v), e.2)) (fun _ => rfl) j
  refine ⟨by rw [hj]; exact aset_nodup h.keys, ?_, fun e he => ?_⟩
  · have h1 : (es.map (·.2)).Pairwise (· < ·) := List.pairwise_map.2 h.born
    rw [← hm] at h1
    exact List.pairwise_map.1 h1
  · have : e.2 ∈ (es.modify j fun e => ((k, v), e.2)).map (·.2) := List.mem_map.2 ⟨e, he, rfl⟩
    rw [hm] at this
    obtain ⟨e', h1, h2⟩ := List.mem_map.1 this
    rw [← h2]; exact h.low e' h1

variable {E : Env} {l : L} {Rs : List Res} {o : Oper} {K : L → List Res → Prop} {kE : κ → Value} {vE : ν → Value}

theorem OpTo_lookup (ht : TabOk E.P E.tab) {T kt et : TypeId} {x ix : Operand} {ok : Bool} {b : Nat} {al : List (κ × ν)} {ti : TyI} {s : SV} (k : κ) (r : Option ν) (hr : aget k al = r) (i : Nat) (ho : o.op = .lookup T x ix ok) (hx : ev l x = some (.v (.map (some b)))) (hix : ev l ix = some s) (hs : s.val = kE k)
    (hT : kindIs E.tab T = some (.map kt et)) (hk : KeyOk E.P kt kE) (hti : tlook E.tab et = some ti) (hi : Rs[i]? = some (mpR kE vE b al))
    (hK : setd E.N o.dst (.v (mapAns ok ti.zero vE r)) l fun l' => K l' Rs) : OpTo E l Rs o K := by
  subst hr
  exact OpTo_run (Qo := fun v Rs' => v = mapAns ok ti.zero vE (aget k al) ∧ Rs' = Rs)
    (fun a w hf hm hio => by
      obtain ⟨es, clock, h1, h2, h3⟩ := hm.mp_at hi
      obtain ⟨d, hd, hsame, hkey⟩ := hk.desc
      have hfind := MapKept.run_findKey (P := E.P) (w := w) hd (findNow_mfind (vE := vE) hsame k es 0)
      have hz := (ht _ _ hti).run_zero (w := w)
      have hu := run_underlying' (w := w) (kind_map ht hT)
      refine ⟨_, Rs, w, ?_, ⟨rfl, rfl⟩, hm, Oth.refl w⟩
      have hlook : (Instr.lookup T (.map (some b)) (kE k) ok).run E.P w = .ok (mapAns ok ti.zero vE (aget k al)) w := by
        subst h2
        rcases mfind_spec k es 0 with ⟨m1, m2⟩ | ⟨j, v, m1, m2, _⟩
        · rw [m1] at hfind
          have : aget k (es.map (·.1)) = none := aget_none.2 m2
          cases ok <;> simp [Instr.lookup, hu, MapKept.run_getObj_map h1, MapKept.run_checkKey hd (hkey k), hfind, hz, this, mapAns]
        · rw [m1] at hfind
          cases ok <;> simp [Instr.lookup, hu, MapKept.run_getObj_map h1, MapKept.run_checkKey hd (hkey k), hfind, m2, mapAns]
      have hs' : s.val = kE k := hs
      simp only [execOp, ho, ev_sound hf hx, ev_sound hf hix, hs', Sem.run_bind]
      rw [show (SV.v (Value.map (some b))).val = .map (some b) from rfl, hlook]
      rfl)
    (fun u Rs' ⟨h1, h2⟩ => by subst h1 h2; exact hK)

theorem OpTo_mapUpdate (ht : TabOk E.P E.tab) {T kt et : TypeId} {x ix y : Operand} {b : Nat} {al : List (κ × ν)} {s u : SV} (k : κ) (v : ν) (i : Nat) (ho : o.op = .mapUpdate T x ix y) (hd0 : o.dst = none) (hx : ev l x = some (.v (.map (some b)))) (hix : ev l ix = some s) (hs : s.val = kE k) (hy : ev l y = some u) (hv : u.val = vE v)
    (hT : kindIs E.tab T = some (.map kt et)) (hk : KeyOk E.P kt kE) (hi : Rs[i]? = some (mpR kE vE b al)) (hK : K l (Rs.set i (mpR kE vE b (aset k v al)))) : OpTo E l Rs o K :=
  OpTo_skip (Qo := fun Rs' => Rs' = Rs.set i (mpR kE vE b (aset k v al))) hd0
    (fun a w hf hm hio => by
      obtain ⟨es, clock, h1, h2, h3⟩ := hm.mp_at hi
      obtain ⟨d, hd, hsame, hkey⟩ := hk.desc
      have hfind := MapKept.run_findKey (P := E.P) (w := w) hd (findNow_mfind (vE := vE) hsame k es 0)
      have hu := run_underlying' (w := w) (kind_map ht hT)
      subst h2
      have hex : ∀ w', (Instr.mapUpdate T (.map (some b)) (kE k) (vE v)).run E.P w = .ok () w' → (execOp a.eval o).run E.P w = .ok .skip w' := by
        intro w' h
        simp only [execOp, ho, ev_sound hf hx, ev_sound hf hix, ev_sound hf hy, hs, hv, Sem.run_bind]
        rw [show (SV.v (Value.map (some b))).val = .map (some b) from rfl, h]
        rfl
      rcases mfind_spec k es 0 with ⟨m1, m2⟩ | ⟨j, v0, m1, m2, ⟨e, m3, m3'⟩, m4, m5⟩
      · rw [m1] at hfind
        refine ⟨_, _, hex _ ?_, rfl, hm.mp_set hi (es' := es ++ [((k, v), clock)]) (clock' := clock + 1) (by rw [aset_new m2]; simp) (h3.push v m2), Oth.setAt _ _ _⟩
        simp [Instr.mapUpdate, hu, MapKept.run_getObj_map h1, MapKept.run_checkKey hd (hkey k), hfind, MapKept.run_setObj_map _ h1, entV]
      · rw [m1] at hfind
        have he : ((es.map (entV kE vE)).toArray[j]?) = some (entV kE vE e) := by simp [m3]
        have hkk : (entV kE vE e).key = kE k := by simp [entV, m3']
        refine ⟨_, _, hex _ ?_, rfl, hm.mp_set hi (es' := es.modify j fun e => ((k, v), e.2)) (clock' := clock) (m4 v) (h3.modify (m4 v)), Oth.setAt _ _ _⟩
        rw [← entV_modify]
        simp [Instr.mapUpdate, hu, MapKept.run_getObj_map h1, MapKept.run_checkKey hd (hkey k), hfind, m3, hkk, MapKept.run_keyThatStays (hkey k), MapKept.run_setObj_map _ h1])
    (fun Rs' h => by subst h; exact hK)

theorem OpTo_mapDel (ht : TabOk E.P E.tab) {T T2 kt et : TypeId} {x ix : Operand} {b : Nat} {al : List (κ × ν)} {s : SV} (k : κ) (i : Nat) (ho : o.op = .call { callee := .builtin .delete, args := #[x, ix], argTypes := #[T, T2] }) (hx : ev l x = some (.v (.map (some b)))) (hix : ev l ix = some s) (hs : s.val = kE k)
    (hT : kindIs E.tab T = some (.map kt et)) (hk : KeyOk E.P kt kE) (hi : Rs[i]? = some (mpR kE vE b al)) (hK : setd E.N o.dst (.v (.tuple #[])) l fun l' => K l' (Rs.set i (mpR kE vE b (adel k al)))) : OpTo E l Rs o K :=
  OpTo_run (Qo := fun v Rs' => v = .tuple #[] ∧ Rs' = Rs.set i (mpR kE vE b (adel k al)))
    (fun a w hf hm hio => by
      obtain ⟨es, clock, h1, h2, h3⟩ := hm.mp_at hi
      obtain ⟨d, hd, hsame, hkey⟩ := hk.desc
      have hfind := MapKept.run_findKey (P := E.P) (w := w) hd (findNow_mfind (vE := vE) hsame k es 0)
      have hu := run_underlying' (w := w) (kind_map ht hT)
      subst h2
      have hex : ∀ w', (Builtin.delete_ #[T, T2] o.type #[.map (some b), kE k]).run E.P w = .ok (.tuple #[]) w' → (execOp a.eval o).run E.P w = .ok (.value (.tuple #[])) w' := by
        intro w' h
        have e1 : a.eval x = .map (some b) := ev_sound hf hx
        have e2 : a.eval ix = kE k := (ev_sound hf hix).trans hs
        simp only [execOp, ho, Sem.run_bind, resolve, invoke, builtin]
        simp [e1, e2, h]
      rcases mfind_spec k es 0 with ⟨m1, m2⟩ | ⟨j, v0, m1, m2, ⟨e, m3, m3'⟩, m4, m5⟩
      · rw [m1] at hfind
        refine ⟨_, _, _, hex _ ?_, ⟨rfl, rfl⟩, hm.mp_set hi (es' := es) (clock' := clock) (adel_none m2).symm h3, Oth.setAt _ _ _⟩
        simp [Builtin.delete_, hu, MapKept.run_getObj_map h1, MapKept.run_checkKey hd (hkey k), hfind, MapKept.run_setObj_map _ h1]
      · rw [m1] at hfind
        refine ⟨_, _, _, hex _ ?_, ⟨rfl, rfl⟩, hm.mp_set hi (es' := es.eraseIdx j) (clock' := clock) m5 (h3.erase j), Oth.setAt _ _ _⟩
        have he : (es.map (entV kE vE)).toArray.eraseIdxIfInBounds j = ((es.eraseIdx j).map (entV kE vE)).toArray := by
          simp [map_eraseIdx']
        rw [← he]
        simp [Builtin.delete_, hu, MapKept.run_getObj_map h1, MapKept.run_checkKey hd (hkey k), hfind, MapKept.run_setObj_map _ h1])
    (fun u Rs' ⟨h1, h2⟩ => by subst h1 h2; exact hK)
end
end Go.RX

/- RX, part 12: a law's arguments as the statement gives them; and back. -/
set_option autoImplicit false
set_option linter.unusedVariables false
set_option linter.unusedSimpArgs false
namespace Go.RX
open Go Go.RowKit Go.ChangeShapes Go.WideShapes

section
variable {H : Type} {enc : TypeId × Value → H} {P : Program}

theorem trodAll_below {W W' : World} (hl : laidOutB P = true) (hb : Below W.heap.size W W') : ∀ {ts : List TypeId} {vs : List Value} {ds : List (DataW H)} {ps : List MemPlace}, (ts.all fun t => P.readableRec t && decide (t < P.types.size)) = true →
    DataW.TrodAll enc P W 0 (fun _ => true) true ts vs ds ps → (∀ x ∈ ps, x.block < W.heap.size) → DataW.TrodAll enc P W' 0 (fun b => decide (b < W.heap.size)) true ts vs ds ps
  | [], vs, ds, ps, _, h, _ => by
    obtain ⟨rfl, rfl, rfl⟩ := trodAll_nil h
    exact trodAll_mk0
  | t :: ts, vs, ds, ps, hr, h, hlt => by
    obtain ⟨v, vs', d, ds', p, p', rfl, rfl, rfl, h1, h2⟩ := trodAll_cons h
    simp only [List.all_cons, Bool.and_eq_true, decide_eq_true_eq] at hr
    exact trodAll_cons_mk (Below.trod hl hr.1.1 hr.1.2 h1 hb fun x hx => hlt x (by simp [hx])) (trodAll_below hl hb hr.2 h2 fun x hx => hlt x (by simp [hx]))

variable {w : World} {base : Nat} {sp : Nat → Bool} {held : Bool}

theorem list_of {α : Type} {R : Nat → α → Prop} : ∀ {n : Nat}, (∀ i, i < n → ∃ u, R i u) → ∃ xs : List α, xs.length = n ∧ ∀ i u, xs[i]? = some u → R i u
  | 0, _ => ⟨[], rfl, fun i u h => by simp at h⟩
  | n + 1, h => by
    obtain ⟨xs, h1, h2⟩ := list_of (R := R) (n := n) fun i hi => h i (by omega)
    obtain ⟨u, hu⟩ := h n (by omega)
    refine ⟨xs ++ [u], by simp [h1], fun i v hv => ?_⟩
    by_cases e : i < n
    · rw [List.getElem?_append_left (by omega)] at hv; exact h2 i v hv
    · rw [List.getElem?_append_right (by omega)] at hv
      have : i - xs.length = 0 := by
        have := (List.getElem?_eq_some_iff.1 hv).1
        simp at this; omega
      rw [this] at hv
      simp at hv; subst hv
      have : i = n := by omega
      subst this; exact hu

theorem IsEnc.flat_inv {α : Type} {en : α → List Value} {k : Nat} (he : IsEnc en k) {xs : List α} {j : Nat} {v : Value} (h : (xs.flatMap en)[j]? = some v) : ∃ i r u, xs[i]? = some u ∧ (en u)[r]? = some v ∧ j = i * k + r ∧ r < k := by
  have hj := (List.getElem?_eq_some_iff.1 h).1
  rw [he.flat_len] at hj
  have hk := he.pos
  have hi : j / k < xs.length := Nat.div_lt_of_lt_mul (by rw [Nat.mul_comm]; exact hj)
  have hr : j % k < k := Nat.mod_lt _ hk
  have hlt : j % k < (en xs[j / k]).length := by rw [he.len]; exact hr
  have e : j = j / k * k + j % k := by rw [Nat.mul_comm]; exact (Nat.div_add_mod j k).symm
  have := he.flat_at (List.getElem?_eq_getElem hi) (j % k) _ (List.getElem?_eq_getElem hlt)
  rw [← e, h] at this
  refine ⟨j / k, j % k, xs[j / k], List.getElem?_eq_getElem hi, ?_, e, hr⟩
  rw [List.getElem?_eq_getElem hlt, this]

theorem rd_cells {α : Type} {en : α → List Value} {k : Nat} (he : IsEnc en k) {Q : α → Prop} {t e : TypeId} (ht : P.underlying t = some (.slice e)) (hc : P.cellsOf e = k)
    (dec : ∀ cs y fuel, DataW.trod enc P w base sp held fuel e cs = some y → ∃ u, cs = en u ∧ Q u) {fuel : Nat} {cs : List Value} {x : DataW H × List MemPlace} (hd : DataW.trod enc P w base sp held fuel t cs = some x) :
    ∃ (A : Option Addr) (c : Nat) (xs : List α), cs = [.slice A xs.length c] ∧ RdW w A (xs.flatMap en) ∧ (∀ x ∈ xs, Q x) ∧ xs.length ≤ c ∧ c ≤ maxLen := by
  rcases DataW.trod_slice ht hd with ⟨h0, _⟩ | ⟨a, len, cap, elems, rest, n, _, h0, _, _, hl, hm, hlen, hel, _, _⟩
  · exact ⟨none, 0, [], h0, .inl rfl, by simp, by simp, by simp⟩
  · obtain ⟨xs, hxl, hxs⟩ := list_of (n := len) (R := fun i u => w.cells? base (a.add (i * k)) k = some (en u) ∧ Q u) fun i hi => by
      have h1 := hel i hi
      rw [hc] at h1
      have h2 : elems[i]? = some (elems[i]'(by omega)) := List.getElem?_eq_getElem (by omega)
      rw [h2, Option.bind_eq_some_iff] at h1
      obtain ⟨cs', h3, h4⟩ := h1
      obtain ⟨u, rfl, hu⟩ := dec cs' _ _ h4
      exact ⟨u, h3, hu⟩
    refine ⟨some a, cap, xs, by rw [hxl]; exact h0, ?_, fun x hx => ?_, by omega, hm⟩
    · by_cases hn : xs = []
      · subst hn; exact .inl rfl
      · have hpos : 0 < xs.length := List.length_pos_iff.2 hn
        have cell : ∀ i u, xs[i]? = some u → ∀ r, r < k → w.cell? ((a.add (i * k)).add r) = (en u)[r]? := fun i u hu r hr => (World.cells?_some (hxs i u hu).1).2.2 r hr
        have h0 := cell 0 _ (List.getElem?_eq_getElem hpos) 0 he.pos
        have hl0 : 0 < (en xs[0]).length := by rw [he.len]; exact he.pos
        rw [List.getElem?_eq_getElem hl0] at h0
        obtain ⟨b, off, spot⟩ := a
        have hspot : spot = none := by simpa [Addr.add] using World.cell?_spot h0
        subst hspot
        refine .inr ⟨b, off, rfl, fun j v hv => ?_⟩
        obtain ⟨i, r, u, h1, h2, h3, h4⟩ := he.flat_inv hv
        have := cell i u h1 r h4
        rw [h2, ← addA_eq, ← addA_eq] at this
        subst h3
        simpa [addA, Nat.add_assoc] using this
    · obtain ⟨i, hi⟩ := List.mem_iff_getElem?.1 hx
      exact (hxs i x hi).2

theorem rd_slice {α : Type} {en : α → List Value} {k : Nat} (he : IsEnc en k) {Q : α → Prop} {t e : TypeId} (ht : P.underlying t = some (.slice e)) (hc : P.cellsOf e = k)
    (dec : ∀ cs y fuel, DataW.trod enc P w base sp held fuel e cs = some y → ∃ u, cs = en u ∧ Q u) {r : Reach} {b0 : Nat} {v : Value} {d : DataW H} {ps : List MemPlace} (hval : Value.okWide P w r b0 t v) (hd : DataW.Trod enc P w base sp held t v d ps) :
    ∃ (A : Option Addr) (c : Nat) (xs : List α), v = .slice A xs.length c ∧ RdW w A (xs.flatMap en) ∧ (∀ x ∈ xs, Q x) ∧ xs.length ≤ c ∧ c ≤ maxLen := by
  obtain ⟨a, len, cap, rfl⟩ := okWide_slice ht hval
  obtain ⟨fuel, hf⟩ := hd
  obtain ⟨A, c, xs, h1, h2⟩ := rd_cells he ht hc dec hf
  simp [Value.cells] at h1
  obtain ⟨rfl, rfl, rfl⟩ := h1
  exact ⟨_, _, xs, rfl, h2⟩

theorem rd_ints {k : IntKind} {t e : TypeId} (ht : P.underlying t = some (.slice e)) (hek : P.underlying e = some (.int k)) (hc : P.cellsOf e = 1) {r : Reach} {b0 : Nat} {v : Value} {d : DataW H} {ps : List MemPlace} (hval : Value.okWide P w r b0 t v)
    (hd : DataW.Trod enc P w base sp held t v d ps) : ∃ (A : Option Addr) (c : Nat) (xs : List Int), v = .slice A xs.length c ∧ RdW w A (xs.flatMap (encI k)) ∧ (∀ x ∈ xs, (Lit.int k x).wf = true) ∧ xs.length ≤ c ∧ c ≤ maxLen :=
  rd_slice (encI_is k) ht hc (fun cs y fuel h => by
    obtain ⟨n, h1, _, h3⟩ := DataW.trod_int hek h
    exact ⟨n, h1, h3⟩) hval hd

theorem rd_bools {t e : TypeId} (ht : P.underlying t = some (.slice e)) (hek : P.underlying e = some .bool) (hc : P.cellsOf e = 1) {r : Reach} {b0 : Nat} {v : Value} {d : DataW H} {ps : List MemPlace} (hval : Value.okWide P w r b0 t v)
    (hd : DataW.Trod enc P w base sp held t v d ps) : ∃ (A : Option Addr) (c : Nat) (xs : List Bool), v = .slice A xs.length c ∧ RdW w A (xs.flatMap encB) ∧ (∀ x ∈ xs, True) ∧ xs.length ≤ c ∧ c ≤ maxLen :=
  rd_slice encB_is ht hc (fun cs y fuel h => by
    obtain ⟨n, h1, _⟩ := DataW.trod_bool hek h
    exact ⟨n, h1, trivial⟩) hval hd

theorem rd_int {k : IntKind} {t : TypeId} (ht : P.underlying t = some (.int k)) {r : Reach} {b0 : Nat} {v : Value} {d : DataW H} {ps : List MemPlace} (hval : Value.okWide P w r b0 t v) (hd : DataW.Trod enc P w base sp held t v d ps) :
    ∃ n, v = .int k n ∧ (Lit.int k n).wf = true := by
  obtain ⟨n, h1, _, _, h2⟩ := open_int ht hval hd
  exact ⟨n, h1, h2⟩
theorem rd_bool {t : TypeId} (ht : P.underlying t = some .bool) {r : Reach} {b0 : Nat} {v : Value} {d : DataW H} {ps : List MemPlace} (hval : Value.okWide P w r b0 t v) (hd : DataW.Trod enc P w base sp held t v d ps) : ∃ b, v = .bool b := by
  obtain ⟨n, h1, _⟩ := open_bool ht hval hd
  exact ⟨n, h1⟩
theorem rd_string {t : TypeId} (ht : P.underlying t = some .string) {r : Reach} {b0 : Nat} {v : Value} {d : DataW H} {ps : List MemPlace} (hval : Value.okWide P w r b0 t v) (hd : DataW.Trod enc P w base sp held t v d ps) :
    ∃ s : ByteArray, v = .string s ∧ s.size ≤ maxLen := by
  obtain ⟨n, h1, _, _, h2⟩ := Go.ChangeMaps.open_string ht hval hd
  exact ⟨n, h1, h2⟩
end
end Go.RX

/- RX, part 15: two values of one type of plain parts: are they equal? -/
set_option autoImplicit false
set_option linter.unusedVariables false
set_option linter.unusedSimpArgs false
namespace Go.RX
open Go Go.RowKit

/-- The parts of two values of several cells, by a comparison of parts. -/
def eqvF (tab : Tab) (rec : TypeId → Value → Value → Option Bool) (xs ys : List Value) : List (Nat × TypeId) → Option Bool
  | [] => some true
  | (off, ft) :: r => match tlook tab ft with
    | some i => match partL i xs off, partL i ys off with
      | some a, some b => match rec ft a b, eqvF tab rec xs ys r with
        | some p, some q => some (p && q)
        | _, _ => none
      | _, _ => none
    | none => none

/-- Are two values equal? By the types 'ts', of which no field is blank. -/
def eqv (tab : Tab) (ts : List Nat) : Nat → TypeId → Value → Value → Option Bool
  | 0, _, _, _ => none
  | d + 1, t, x, y => match kindIs tab t, x, y with
    | some (.int _), .int k a, .int k' b => match decide (k = k') with
      | true => some (a == b)
      | false => none
    | some .bool, .bool a, .bool b => some (a == b)
    | some .str, .string a, .string b => some (a.toList == b.toList)
    | some (.struct fs), .agg xs, .agg ys => match memb t ts with
      | true => eqvF tab (eqv tab ts d) xs.toList ys.toList fs
      | false => none
    | _, _, _ => none

/-- No field is blank. -/
def fairB (P : Program) (t : TypeId) : Bool := !P.stoodInHeld t && (P.fieldsOf t).toList.all fun f => decide (f.name ≠ "_")

theorem memb_mem {i : Nat} {l : List Nat} (h : memb i l = true) : i ∈ l := memb_spec h

section
variable {P : Program} {tab : Tab}

theorem eqvF_sound (ht : TabOk P tab) {rec : TypeId → Value → Value → Option Bool} {D : Nat} (hrec : ∀ t x y r w, rec t x y = some r → (Op.equalIn D t x y).run P w = .ok r w) {xs ys : Array Value} (w : World) :
    ∀ (fs : List Field) (r : Bool), (fs.all fun f => decide (f.name ≠ "_")) = true → eqvF tab rec xs.toList ys.toList (fs.map fun f => (f.offset, f.type)) = some r → (Op.eqFields D xs ys fs).run P w = .ok r w
  | [], r, _, h => by simp only [List.map_nil, eqvF] at h; cases h; simp [Op.eqFields]
  | f :: fs, r, hn, h => by
    simp only [List.all_cons, Bool.and_eq_true, decide_eq_true_eq] at hn
    simp only [List.map_cons, eqvF] at h
    split at h <;> try (cases h; done)
    rename_i i hi
    split at h <;> try (cases h; done)
    rename_i a b ha hb
    split at h <;> try (cases h; done)
    rename_i p q hp hq
    cases h
    have ih := eqvF_sound ht hrec w fs q (by simpa using hn.2) hq
    simp only [Op.eqFields, if_pos hn.1, Sem.run_bind, partL_sound ht hi ha w, Result.andThen_ok, partL_sound ht hi hb w, hrec _ _ _ _ w hp, Sem.run_ite]
    cases p
    · simp
    · simp [ih]

theorem eqv_sound (ht : TabOk P tab) {ts : List Nat} (hts : ∀ t ∈ ts, fairB P t = true) : ∀ (d e : Nat) (t : TypeId) (x y : Value) (r : Bool) (w : World), eqv tab ts d t x y = some r → (Op.equalIn (d + e) t x y).run P w = .ok r w
  | 0, _, _, _, _, _, _, h => by simp [eqv] at h
  | d + 1, e, t, x, y, r, w, h => by
    rw [show d + 1 + e = (d + e) + 1 from by omega]
    simp only [eqv] at h
    split at h
    · rename_i k0 k a k' b hk
      split at h <;> try (cases h; done)
      rename_i hkk
      have := of_decide_eq_true hkk
      subst this
      cases h
      obtain ⟨u, hu, hk⟩ := kind_spec ht hk
      simp only [TK.ok] at hk; subst hk
      exact run_equalIn_int w _ t _ _ a b hu
    · rename_i a b hk
      cases h
      obtain ⟨u, hu, hk⟩ := kind_spec ht hk
      simp only [TK.ok] at hk; subst hk
      exact equalIn_bool _ hu a b w
    · rename_i a b hk
      cases h
      obtain ⟨u, hu, hk⟩ := kind_spec ht hk
      simp only [TK.ok] at hk; subst hk
      exact run_equalIn_string w _ t a b hu
    · rename_i fs xs ys hk
      split at h <;> try (cases h; done)
      rename_i hm
      obtain ⟨u, hu, fields, hfl, hfs⟩ := kind_spec ht hk
      subst hfl
      have hf := hts t (memb_mem hm)
      simp only [fairB, Bool.and_eq_true, Bool.not_eq_true'] at hf
      have hfo : P.fieldsOf t = fields := by simp [Program.fieldsOf, hu]
      rw [run_equalIn_struct w (d + e) t xs ys (by rw [hfo]; exact hu) hf.1]
      rw [hfo]
      rw [hfo] at hf
      rw [← hfs] at h
      exact eqvF_sound ht (fun t' x' y' r' w' h' => eqv_sound ht hts d e t' x' y' r' w' h') w _ r (by simpa using hf.2) h
    · cases h

/-- Two structs compared. -/
theorem run_eq_struct (ht : TabOk P tab) {ts : List Nat} (hts : ∀ t ∈ ts, fairB P t = true) {t : TypeId} {xs ys : Array Value} {r : Bool} (hg : P.eqGuardType P.depth t = false) (h : eqv tab ts 5 t (.agg xs) (.agg ys) = some r) (x y : Operand) (w : World) :
    (binRun .eql t x y (.agg xs) (.agg ys)).run P w = .ok (.bool r) w ∧ (binRun .neq t x y (.agg xs) (.agg ys)).run P w = .ok (.bool (!r)) w := by
  have he : (Op.equalIn 10000 t (.agg xs) (.agg ys)).run P w = .ok r w := eqv_sound ht hts 5 9995 t _ _ r w h
  constructor
  · simp only [binRun, Sem.run_bind, run_eqGuard_agg w _ t x y xs ys hg, Result.andThen_ok, run_eql_struct, he]
  · simp only [binRun, Sem.run_bind, run_eqGuard_agg w _ t x y xs ys hg, Result.andThen_ok, run_neq_struct, he]
end
end Go.RX

/- RX, part 16: new slices of zeroes; bytes as a text; a map gone through, in whichever order. -/
set_option autoImplicit false
set_option linter.unusedVariables false
set_option linter.unusedSimpArgs false
namespace Go.RX
open Go Go.RowKit

/-- A block that stands somewhere. -/
theorem findR_at {b : Nat} {E : Prop} {T : TypeId} {cs : List Value} : ∀ {Rs : List Res} {i j : Nat} {K : Nat → TypeId → List Value → Prop}, Rs[j]? = some (.blk b T cs) → K (i + j) T cs → findR b E Rs i K
  | [], _, _, _, h, _ => by simp at h
  | .blk b' T' cs' :: r, i, 0, K, h, hk => by
    simp at h
    obtain ⟨rfl, rfl, rfl⟩ := h
    exact .inl ⟨rfl, hk⟩
  | .blk b' T' cs' :: r, i, j + 1, K, h, hk => .inr (findR_at (Rs := r) (by simpa using h) (by rw [Nat.add_right_comm, Nat.add_assoc]; exact hk))
  | .hp _ :: r, i, 0, K, h, hk => by simp at h
  | .hp _ :: r, i, j + 1, K, h, hk => findR_at (Rs := r) (by simpa using h) (by rw [Nat.add_right_comm, Nat.add_assoc]; exact hk)

/-- Memory that is known otherwise. -/
theorem findR_E {b : Nat} {E : Prop} (h : E) : ∀ {Rs : List Res} {i : Nat} {K : Nat → TypeId → List Value → Prop}, findR b E Rs i K
  | [], _, _ => h
  | .blk _ _ _ :: r, _, _ => .inr (findR_E h (Rs := r))
  | .hp _ :: r, _, _ => findR_E h (Rs := r)

/-- Some of the resources, in their order. -/
theorem Mod.less {hfs : List PH} {a b : List Res} {w : World} (hs : b.Sublist a) (hm : Mod hfs a w) : Mod hfs b w := by
  obtain ⟨r, hr⟩ := hs.exists_perm_append
  exact (hm.permRs (hr.trans List.perm_append_comm)).drop

/-! ### a part of an element of a row -/
theorem rxLoadPart {P : Program} {tab : Tab} (ht : TabOk P tab) {T : Nat} {ti : TyI} (hti : tlook tab T = some ti) {α : Type} {enc : α → List Value} {k : Nat} (he : IsEnc enc k) {w : World} {b o : Nat} {xs : List α} (hr : RdW w (some ⟨b, o, none⟩) (xs.flatMap enc)) {n off : Nat} {x : α} (hx : xs[n]? = some x)
    {v : Value} (hv : partL ti (enc x) off = some v) {p : Addr} (hp : p = ⟨b, o + n * k + off, none⟩) : (loadVar T p).run P w = .ok v w := by
  subst hp
  unfold partL at hv
  split at hv <;> try (cases hv; done)
  rename_i r hr1
  split at hv <;> try (cases hv; done)
  rename_i vs hvs
  obtain ⟨h1, h2⟩ := dropN_spec hr1
  obtain ⟨h3, h4⟩ := takeN_spec hvs
  have hvl : vs.length = ti.size := by rw [h4]; simp; omega
  have hmk : mkV ti.kind.agg vs = v := by
    split at hv
    · rename_i ha; cases hv; rw [ha]; rfl
    · rename_i ha
      split at hv <;> try (cases hv; done)
      cases hv; rw [ha]; rfl
  have h1' : ti.kind.agg = false → ti.size = 1 := fun ha => by
    rw [ha] at hv
    simp only at hv
    split at hv <;> try (cases hv; done)
    simpa using hvl.symm
  rcases hr with hr | ⟨b', o', e, hcell⟩
  · have := he.flat_nil hr; subst this; simp at hx
  · cases e
    rw [← hmk]
    refine run_loadVar_cells ht hti hvl h1' fun j u hu => ?_
    have hu' : (enc x)[off + j]? = some u := by
      rw [h4, List.getElem?_take] at hu
      split at hu
      · rw [h2, List.getElem?_drop] at hu; exact hu
      · cases hu
    have := hcell _ u (he.flat_at hx _ u hu')
    rw [← this]
    congr 2
    omega

theorem OpTo_loadPart {E : Env} {l : L} {Rs : List Res} {o : Oper} {K : L → List Res → Prop} {α : Type} {enc : α → List Value} {k : Nat} (ht : TabOk E.P E.tab) (he : IsEnc enc k) {T : TypeId} {x : Operand} {p : Addr} {ti : TyI} {b off n j : Nat} {xs : List α} {u : α} (v : Value) (ho : o.op = .load T x) (hx : ev l x = some (.v (.pointer (some p)))) (hti : tlook E.tab T = some ti)
    (hr : ∀ w, Mod E.hfs Rs w → Oth E.w0 w → RdW w (some ⟨b, off, none⟩) (xs.flatMap enc)) (hu : xs[n]? = some u) (hv : partL ti (enc u) j = some v) (hp : p = ⟨b, off + n * k + j, none⟩)
    (hK : setd E.N o.dst (.v v) l fun l' => K l' Rs) : OpTo E l Rs o K :=
  OpTo_load ho hx (fun w hm hio => rxLoadPart ht hti he (hr w hm hio) hu hv hp) hK

theorem list_part {α : Type} (P E R vs : List α) (j : Nat) (h : j + vs.length ≤ E.length) : (P ++ (E ++ R)).take (P.length + j) ++ vs ++ (P ++ (E ++ R)).drop (P.length + j + vs.length) = P ++ ((E.take j ++ vs ++ E.drop (j + vs.length)) ++ R) := by
  rw [List.take_append, List.take_of_length_le (l := P) (by omega), show P.length + j - P.length = j from by omega, List.take_append_of_le_length (by omega)]
  rw [List.drop_append, List.drop_of_length_le (l := P) (by omega), List.nil_append, show P.length + j + vs.length - P.length = j + vs.length from by omega, List.drop_append_of_le_length (by omega)]
  simp [List.append_assoc]

theorem IsEnc.flat_split {α : Type} {enc : α → List Value} {k : Nat} (he : IsEnc enc k) {xs : List α} {n : Nat} {x : α} (hx : xs[n]? = some x) : xs.flatMap enc = (xs.take n).flatMap enc ++ (enc x ++ (xs.drop (n + 1)).flatMap enc) := by
  obtain ⟨hn, rfl⟩ := List.getElem?_eq_some_iff.1 hx
  have e : xs = xs.take n ++ xs[n] :: xs.drop (n + 1) := by rw [← List.drop_eq_getElem_cons hn, List.take_append_drop]
  refine (congrArg (List.flatMap enc) e).trans ?_
  rw [List.flatMap_append, List.flatMap_cons]

/-- A part of an element is written. -/
theorem Mod.own_storePart {P : Program} {tab : Tab} (ht : TabOk P tab) {α : Type} {enc : α → List Value} {k : Nat} {T : TypeId} {c : Nat} {hfs : List PH} {Rs : List Res} {w : World} {T' : Nat} {ti : TyI} (hti : tlook tab T' = some ti) (he : IsEnc enc k) {i n j : Nat} {x y : α} {v : Value} {b o : Nat} {xs : List α}
    (hx : xs[n]? = some x) (hv : splice (enc x) j v.cells.toList = some (enc y)) (hk : ti.size = v.cells.toList.length) (h1 : ∀ u ∈ v.cells.toList, cell1 u = true) (hm : Mod hfs Rs w) (hi : Rs[i]? = some (own enc k T (some ⟨b, o, none⟩) c xs)) {p : Addr} (hp : p = ⟨b, o + n * k + j, none⟩) :
    ∃ w', (storeVar T' p v).run P w = .ok () w' ∧ Mod hfs (Rs.set i (own enc k T (some ⟨b, o, none⟩) c (xs.set n y))) w' ∧ Oth w w' := by
  subst hp
  have hn := (List.getElem?_eq_some_iff.1 hx).1
  obtain ⟨h, g1, h2, hset⟩ := hm.open_ hi
  rcases g1 with ⟨rfl, _⟩ | ⟨b', pre, tl, h3, h4, h5, h6, h7⟩
  · simp at hn
  · obtain ⟨rfl, rfl⟩ : b = b' ∧ o = pre.length := by simpa using h3
    obtain ⟨hs1, hs2⟩ := splice_spec hv
    have hsp := he.flat_split hx
    have hA : ((xs.take n).flatMap enc).length = n * k := by rw [he.flat_len, List.length_take, Nat.min_eq_left (by omega)]
    have hcells : (pre ++ xs.flatMap enc ++ tl) = (pre ++ (xs.take n).flatMap enc) ++ (enc x ++ ((xs.drop (n + 1)).flatMap enc ++ tl)) := by rw [hsp]; simp [List.append_assoc]
    have hpl : (pre ++ (xs.take n).flatMap enc).length = pre.length + n * k := by simp [hA]
    have hb : w.heap[b]? = some (.cells (pre ++ xs.flatMap enc ++ tl).toArray T (0, 0)) := h2 b _ (by rw [h4]; exact one_same _ _)
    obtain ⟨w', e1, e2, e3, e4, e5, e6, e7⟩ := run_storeCells (P := P) v.cells.toList 0 (w := w) (b := b) (off := pre.length + n * k + j) hb (by
      have hs1' : j + v.cells.size ≤ (enc x).length := by simpa using hs1
      rw [hcells]; simp [hA]; omega) h1
    have hok := ht T' ti hti
    have hvs : v.cells.size = ti.size := by rw [hk]; simp
    refine ⟨w', ?_, hset _ _ w' (.inr ⟨b, pre, tl, rfl, rfl, by simpa using h5, by simpa using h6, h7⟩) (Sub.one ?_) (fun m _ hm0 => ?_), ⟨e5, e6, e7.1, by omega, by omega⟩⟩
    · simp only [storeVar, Sem.run_bind, hok.run_size, Result.andThen_ok, hvs, ne_eq, not_true_eq_false, if_false]
      simpa using e1
    · rw [e2]
      congr 2
      apply Array.toList_inj.1
      simp only [Nat.add_zero]
      rw [hcells]
      have := list_part (pre ++ (xs.take n).flatMap enc) (enc x) ((xs.drop (n + 1)).flatMap enc ++ tl) v.cells.toList j hs1
      rw [hpl] at this
      rw [this, ← hs2, List.set_eq_take_append_cons_drop, if_pos hn]
      simp [List.flatMap_append, List.append_assoc]
    · have hne : m ≠ b := fun e => by subst e; rw [h4, one_same] at hm0; cases hm0
      exact ⟨e3 m hne, one_ne _ hne⟩

theorem OpTo_storePart {E : Env} {l : L} {Rs : List Res} {o : Oper} {K : L → List Res → Prop} {α : Type} {enc : α → List Value} {k : Nat} (ht : TabOk E.P E.tab) (he : IsEnc enc k) {T T' : TypeId} {x y : Operand} {p : Addr} {s : SV} {ti : TyI} {b n off c j : Nat} {xs : List α} {u u' : α} (i : Nat) (ho : o.op = .store T' x y) (hd : o.dst = none) (hx : ev l x = some (.v (.pointer (some p)))) (hy : ev l y = some s)
    (hti : tlook E.tab T' = some ti) (hi : Rs[i]? = some (own enc k T (some ⟨b, off, none⟩) c xs)) (hu : xs[n]? = some u) (hv : splice (enc u) j s.val.cells.toList = some (enc u')) (hk : ti.size = s.val.cells.toList.length) (h1 : allOne s.val.cells.toList = true) (hp : p = ⟨b, off + n * k + j, none⟩)
    (hK : K l (Rs.set i (own enc k T (some ⟨b, off, none⟩) c (xs.set n u')))) : OpTo E l Rs o K :=
  OpTo_skip (Qo := fun Rs' => Rs' = Rs.set i (own enc k T (some ⟨b, off, none⟩) c (xs.set n u'))) hd
    (fun a w hf hmod hio => by
      obtain ⟨w', h1, h2, h3⟩ := hmod.own_storePart ht hti he hu hv hk (allOne_spec h1) hi hp
      refine ⟨_, w', ?_, rfl, h2, h3⟩
      simp only [execOp, ho, ev_sound hf hx, ev_sound hf hy, SV.val, Instr.storeAt, Instr.sureAddr, Sem.run_bind, Sem.run_pure, Result.andThen_ok] at h1 ⊢
      rw [h1]
      rfl)
    (fun Rs' h => by subst h; exact hK)

theorem repL_add (z : List Value) : ∀ n m, repL (n + m) z = repL n z ++ repL m z
  | 0, m => by simp [repL]
  | n + 1, m => by rw [Nat.add_right_comm]; simp [repL, repL_add z n m]
theorem repL_len (z : List Value) : ∀ n, (repL n z).length = n * z.length
  | 0 => by simp [repL]
  | n + 1 => by simp [repL, repL_len z n, Nat.succ_mul]; omega

theorem madeCells_repL (z : Array Value) (n k : Nat) (hk : z.toList.length = k) (h : 0 < k) : madeCells z (n * k) = (repL n z.toList).toArray := by
  by_cases hn : n = 0
  · subst hn
    apply Array.toList_inj.1
    simp [madeCells, repL]
  · have := repL_range z.toList n (by rw [hk]; exact Nat.mul_ne_zero hn (by omega))
    rw [hk] at this
    rw [← this]
    simp [madeCells]

section
variable {E : Env} {l : L} {Rs : List Res} {o : Oper} {K : L → List Res → Prop} {α : Type} {enc : α → List Value} {k : Nat}

theorem OpTo_make (ht : TabOk E.P E.tab) (he : IsEnc enc k) {T e : TypeId} {lx cx : Operand} {kl kc : IntKind} {n c : Int} {ti : TyI} (z : α) (ho : o.op = .makeSlice T lx cx) (hl : ev l lx = some (.v (.int kl n))) (hc : ev l cx = some (.v (.int kc c)))
    (hT : kindIs E.tab T = some (.slice e)) (hti : tlook E.tab e = some ti) (hk : ti.size = k) (hz : ti.zero.cells.toList = enc z) (h0 : 0 ≤ n) (hnc : n ≤ c) (hbd : (ti.bytes : Int) * c ≤ 281474976710656) (h63 : c ≤ 9223372036854775807)
    (hK : ∀ b, E.w0.heap.size ≤ b → setd E.N o.dst (.v (.slice (some ⟨b, 0, none⟩) n.toNat c.toNat)) l fun l' => K l' (own enc k e (some ⟨b, 0, none⟩) c.toNat (List.replicate n.toNat z) :: Rs)) : OpTo E l Rs o K := by
  intro a w hf hm hio
  obtain ⟨l', k1, k2⟩ := setd_sound (hK w.heap.size hio.size) hf
  obtain ⟨d, hd, hdk⟩ := kind_spec ht hT
  simp only [TK.ok] at hdk; subst hdk
  obtain ⟨inf, hinf, e1⟩ := Option.map_eq_some_iff.1 (ht e ti hti).info
  simp only [Prod.mk.injEq] at e1
  obtain ⟨es, eb, ez⟩ := e1
  have hrun := run_make (P := E.P) w T e inf ti.zero hd hinf ez kl kc n c h0 hnc (by rw [eb]; exact hbd) h63
  have hzl : ti.zero.cells.toList.length = k := by rw [hz, he.len]
  rw [es, hk, madeCells_repL _ _ _ hzl he.pos, hz] at hrun
  unfold Oper.wp
  have hex : (execOp a.eval o).run E.P w = .ok (.value (.slice (some ⟨w.heap.size, 0, none⟩) n.toNat c.toNat)) (w.alloc (.cells (repL c.toNat (enc z)).toArray e)) := by
    simp only [execOp, ho, ev_sound hf hl, ev_sound hf hc, SV.val, Sem.run_bind, hrun]
    rfl
  rw [hex]
  have hsplit : repL c.toNat (enc z) = (List.replicate n.toNat z).flatMap enc ++ repL (c.toNat - n.toNat) (enc z) := by
    rw [flat_replicate, ← repL_add]; congr 1; omega
  refine ⟨l', _, k1, k2, hm.add (h := one w.heap.size (.cells (repL c.toNat (enc z)).toArray e (0, 0))) (fun m hm' => (MapKept.heap_alloc w _).2 m hm') ?_ (fun m hm' => one_ne _ (Nat.ne_of_lt hm')) (Sub.one (MapKept.heap_alloc w _).1), hio.trans (Oth.push w _)⟩
  refine .inr ⟨w.heap.size, [], repL (c.toNat - n.toNat) (enc z), rfl, by rw [hsplit]; simp, ?_, by simp; omega, by omega⟩
  rw [repL_len, he.len]; simp

/-- Some bytes as a text. -/
def bytesOf (ns : List Int) : ByteArray := ns.foldl (fun r n => r.push (UInt8.ofNat n.toNat)) ByteArray.empty

theorem OpTo_bytesStr (ht : TabOk E.P E.tab) {src dst e : TypeId} {x : Operand} {A : Option Addr} {n c : Nat} {ns : List Int} (ho : o.op = .convert src dst x) (hx : ev l x = some (.v (.slice A n c))) (hs : kindIs E.tab src = some (.slice e)) (he : kindIs E.tab e = some (.int .u8)) (hd : kindIs E.tab dst = some .str)
    (hn : n = ns.length) (hr : ∀ w, Mod E.hfs Rs w → Oth E.w0 w → RdW w A (ns.flatMap (encI .u8))) (hK : setd E.N o.dst (.v (.string (bytesOf ns))) l fun l' => K l' Rs) : OpTo E l Rs o K :=
  OpTo_run (Qo := fun v Rs' => v = .string (bytesOf ns) ∧ Rs' = Rs)
    (fun a w hf hm hio => by
      obtain ⟨d1, hd1, e1⟩ := kind_spec ht hs
      obtain ⟨d2, hd2, e2⟩ := kind_spec ht he
      obtain ⟨d3, hd3, e3⟩ := kind_spec ht hd
      simp only [TK.ok] at e1 e2 e3; subst e1 e2 e3
      refine ⟨_, Rs, w, ?_, ⟨rfl, rfl⟩, hm, Oth.refl w⟩
      have hconv : (convert src dst (.slice A n c)).run E.P w = .ok (.string (bytesOf ns)) w := by
        rw [run_convert_bytes_string w src dst e A n c hd1 hd2 hd3]
        subst hn
        have h := hr w hm hio
        rw [flat_encI] at h
        cases A with
        | none =>
          rcases h with h | ⟨b, o', h, _⟩
          · have : ns = [] := by simpa using h
            subst this; simp [Conv.bytesToString, bytesOf]
          · cases h
        | some a =>
          refine run_bytesToString w a ns.length c ns ?_
          have := run_loadCells_list (P := E.P) (w := w) a (ns.map (Value.int .u8)) fun j v hv => ?_
          · simpa using this
          · rcases h with h | ⟨b, o', h, h2⟩
            · rw [h] at hv; simp at hv
            · cases h; rw [← addA_eq]; exact h2 j v hv
      simp only [execOp, ho, ev_sound hf hx, SV.val, Sem.run_bind, hconv]
      rfl)
    (fun u Rs' ⟨h1, h2⟩ => by subst h1 h2; exact hK)

theorem bytesOf_push (ns : List Int) (n : Int) : bytesOf (ns ++ [n]) = (bytesOf ns).push (UInt8.ofNat n.toNat) := by simp [bytesOf]
theorem bytesOf_data (ns : List Int) : (bytesOf ns).data.toList = ns.map fun n => UInt8.ofNat n.toNat := by
  have key : ∀ (ns : List Int) (s : ByteArray), (ns.foldl (fun r n => r.push (UInt8.ofNat n.toNat)) s).data.toList = s.data.toList ++ ns.map fun n => UInt8.ofNat n.toNat := by
    intro ns
    induction ns with
    | nil => intro s; simp
    | cons n r ih =>
      intro s
      rw [List.foldl_cons, ih]
      show (s.data.push _).toList ++ _ = _
      rw [Array.toList_push, List.append_assoc]
      rfl
  unfold bytesOf
  rw [key]
  rfl
theorem bytesOf_size (ns : List Int) : (bytesOf ns).size = ns.length := by
  have h := congrArg List.length (bytesOf_data ns)
  rw [List.length_map] at h
  exact h
end

/-! ### a map gone through -/
section
variable {κ ν : Type}
open Go.ChangeMaps (setBlock)

/-- A map, and one who goes through it: what is left of it. -/
def MpItS (kE : κ → Value) (vE : ν → Value) (b bi : Nat) (al todo : List (κ × ν)) (last : Option (κ × ν)) : HP := fun h => ∃ (es : List ((κ × ν) × Nat)) (clock : Nat) (seen : Array Nat),
  h = uni (one b (.map (es.map (entV kE vE)).toArray clock)) (one bi (.mapIter (some b) clock seen clock)) ∧ b ≠ bi ∧ es.map (·.1) = al ∧ EntOk es clock ∧ (es.filter fun e => !seen.contains e.2).map (·.1) = todo ∧
    ∀ p, last = some p → ∃ (seen0 : Array Nat) (e : (κ × ν) × Nat), seen = seen0.push e.2 ∧ e ∈ es ∧ e.1 = p
abbrev mpItR (kE : κ → Value) (vE : ν → Value) (b bi : Nat) (al todo : List (κ × ν)) (last : Option (κ × ν)) : Res := .hp (MpItS kE vE b bi al todo last)

theorem uni_at1 {b bi : Nat} {o1 o2 : Obj} : uni (one b o1) (one bi o2) b = some o1 := by simp [uni, one_same]
theorem uni_at2 {b bi : Nat} {o1 o2 : Obj} (h : b ≠ bi) : uni (one b o1) (one bi o2) bi = some o2 := by simp [uni, one_ne o1 (Ne.symm h), one_same]
theorem uni_none {b bi n : Nat} {o1 o2 : Obj} (h1 : n ≠ b) (h2 : n ≠ bi) : uni (one b o1) (one bi o2) n = none := by simp [uni, one_ne _ h1, one_ne _ h2]
theorem uni_inv {b bi n : Nat} {o1 o2 : Obj} (h : uni (one b o1) (one bi o2) n = none) : n ≠ b ∧ n ≠ bi := by
  constructor
  · rintro rfl; rw [uni_at1] at h; cases h
  · rintro rfl
    by_cases hb : b = n
    · subst hb; rw [uni_at1] at h; cases h
    · rw [uni_at2 hb] at h; cases h
theorem Sub.uni {w : World} {b bi : Nat} {o1 o2 : Obj} (h1 : w.heap[b]? = some o1) (h2 : w.heap[bi]? = some o2) : Sub (RX.uni (RX.one b o1) (RX.one bi o2)) w := by
  intro n o e
  by_cases hb : n = b
  · subst hb; rw [uni_at1] at e; cases e; exact h1
  · simp only [RX.uni, one_ne _ hb] at e
    exact Sub.one h2 n o (by simpa using e)

variable {kE : κ → Value} {vE : ν → Value}

theorem Mod.itEnd {hfs : List PH} {Rs : List Res} {w : World} {i b bi : Nat} {al todo : List (κ × ν)} {last : Option (κ × ν)} (hm : Mod hfs Rs w) (hi : Rs[i]? = some (mpItR kE vE b bi al todo last)) : Mod hfs (Rs.set i (mpR kE vE b al)) w :=
  hm.turn hi fun h ⟨es, clock, seen, h1, h2, h3, h4, h5, h6⟩ hs => by
    subst h1
    exact ⟨_, ⟨es, clock, rfl, h3, h4⟩, Sub.one (hs _ _ uni_at1), fun n _ hn => ⟨rfl, one_ne _ (uni_inv hn).1⟩⟩

theorem Mod.it_nodup {hfs : List PH} {Rs : List Res} {w : World} {i b bi : Nat} {al todo : List (κ × ν)} {last : Option (κ × ν)} (hm : Mod hfs Rs w) (hi : Rs[i]? = some (mpItR kE vE b bi al todo last)) : (keys al).Nodup := by
  obtain ⟨h, ⟨es, clock, seen, h1, h2, h3, h4, h5, h6⟩, hs⟩ := hm.get hi
  rw [← h3]; exact h4.keys

theorem filter_split {es : List ((κ × ν) × Nat)} {clock : Nat} (ho : EntOk es clock) {seen : Array Nat} {e : (κ × ν) × Nat} (he : e ∈ es.filter fun e => !seen.contains e.2) :
    ∃ F1 F2, (es.filter fun e => !seen.contains e.2) = F1 ++ e :: F2 ∧ (es.filter fun x => !(seen.push e.2).contains x.2) = F1 ++ F2 := by
  obtain ⟨F1, F2, hF⟩ := List.append_of_mem he
  refine ⟨F1, F2, hF, ?_⟩
  have h1 : (es.filter fun x => !(seen.push e.2).contains x.2) = (es.filter fun x => !seen.contains x.2).filter fun x => !(x.2 == e.2) := by
    rw [List.filter_filter]
    apply List.filter_congr
    intro x _
    by_cases hx : x.2 = e.2 <;> simp [Array.contains_push, hx]
  rw [h1, hF]
  have hp : (F1 ++ e :: F2).Pairwise fun a b => a.2 < b.2 := by rw [← hF]; exact ho.born.sublist List.filter_sublist
  rw [List.pairwise_append] at hp
  obtain ⟨_, p2, p3⟩ := hp
  rw [List.pairwise_cons] at p2
  rw [List.filter_append, List.filter_cons_of_neg (by simp), List.filter_eq_self.2, List.filter_eq_self.2]
  · intro x hx; have := p2.1 x hx; simp; omega
  · intro x hx; have := p3 x hx e (by simp); simp; omega

variable {E : Env} {l : L} {Rs : List Res} {o : Oper} {K : L → List Res → Prop}

theorem OpTo_range (ht : TabOk E.P E.tab) {T kt et : TypeId} {x : Operand} {b : Nat} {al : List (κ × ν)} (i : Nat) (ho : o.op = .range T x) (hx : ev l x = some (.v (.map (some b)))) (hT : kindIs E.tab T = some (.map kt et)) (hi : Rs[i]? = some (mpR kE vE b al))
    (hK : ∀ bi, E.w0.heap.size ≤ bi → setd E.N o.dst (.v (.pointer (some ⟨bi, 0, none⟩))) l fun l' => K l' (Rs.set i (mpItR kE vE b bi al al none))) : OpTo E l Rs o K := by
  intro a w hf hm hio
  obtain ⟨l', k1, k2⟩ := setd_sound (hK w.heap.size hio.size) hf
  obtain ⟨es, clock, h1, h2, h3⟩ := hm.mp_at hi
  have hu := run_underlying' (w := w) (kind_map ht hT)
  unfold Oper.wp
  have hex : (execOp a.eval o).run E.P w = .ok (.value (.pointer (some ⟨w.heap.size, 0, none⟩))) (w.alloc (.mapIter (some b) clock #[] clock)) := by
    simp [execOp, ho, ev_sound hf hx, SV.val, Instr.range, hu, MapKept.run_getObj_map h1, newObj, Sem.run]
  rw [hex]
  have hb : b < w.heap.size := (Array.getElem?_eq_some_iff.1 h1).1
  refine ⟨l', _, k1, k2, ?_, hio.trans (Oth.push w _)⟩
  refine hm.turn hi fun h hh hs => ?_
  obtain ⟨es', clock', e1, e2, e3⟩ := hh
  subst e1
  have hb' := hs _ _ (one_same b _)
  rw [h1] at hb'
  refine ⟨uni (one b (.map (es.map (entV kE vE)).toArray clock)) (one w.heap.size (.mapIter (some b) clock #[] clock)), ⟨es, clock, #[], rfl, by omega, h2, h3, ?_, fun p hp => by cases hp⟩, Sub.uni ?_ ?_, fun n hn hn0 => ⟨?_, uni_none ?_ (by omega)⟩⟩
  · rw [List.filter_eq_self.2 (by simp)]; exact h2
  · rw [(MapKept.heap_alloc w _).2 b hb]; exact h1
  · exact (MapKept.heap_alloc w _).1
  · exact (MapKept.heap_alloc w _).2 n hn
  · rintro rfl; rw [one_same] at hn0; cases hn0

theorem OpTo_next {x : Operand} {b bi : Nat} {al todo : List (κ × ν)} {last : Option (κ × ν)} (i : Nat) (ho : o.op = .next x false) (hx : ev l x = some (.v (.pointer (some ⟨bi, 0, none⟩)))) (hi : Rs[i]? = some (mpItR kE vE b bi al todo last))
    (hK0 : todo = [] → setd E.N o.dst (.v (.tuple #[.bool false])) l fun l' => K l' Rs)
    (hK1 : ∀ t1 p t2, todo = t1 ++ p :: t2 → setd E.N o.dst (.v (.tuple #[.bool true, kE p.1, vE p.2])) l fun l' => K l' (Rs.set i (mpItR kE vE b bi al (t1 ++ t2) (some p)))) : OpTo E l Rs o K :=
  OpTo_run (Qo := fun v Rs' => (todo = [] ∧ v = .tuple #[.bool false] ∧ Rs' = Rs) ∨ ∃ t1 p t2, todo = t1 ++ p :: t2 ∧ v = .tuple #[.bool true, kE p.1, vE p.2] ∧ Rs' = Rs.set i (mpItR kE vE b bi al (t1 ++ t2) (some p)))
    (fun a w hf hm hio => by
      obtain ⟨h, ⟨es, clock, seen, h1, h2, h3, h4, h5, h6⟩, hs, hset⟩ := hm.open_ hi
      subst h1
      have hb := hs _ _ (uni_at1 (bi := bi) (o2 := .mapIter (some b) clock seen clock))
      have hbi := hs _ _ (uni_at2 h2)
      have hleft : (leftOf (es.map (entV kE vE)).toArray seen).toList = (es.filter fun e => !seen.contains e.2).map (entV kE vE) := by
        simp only [leftOf, Array.toList_filter, List.filter_map]
        rfl
      have hlow : ∀ x ∈ (es.map (entV kE vE)).toArray.toList, x.born < clock := by
        intro x hx
        obtain ⟨e, he, rfl⟩ := List.mem_map.1 (show x ∈ es.map (entV kE vE) from hx)
        exact h4.low e he
      have hex : ∀ v w', (Instr.next (.pointer (some ⟨bi, 0, none⟩)) false o.type).run E.P w = .ok v w' → (execOp a.eval o).run E.P w = .ok (.value v) w' := by
        intro v w' h
        simp only [execOp, ho, ev_sound hf hx, SV.val, Sem.run_bind, h]
        rfl
      rcases run_next_at (P := E.P) w o.type bi b clock clock seen _ clock hbi hb hlow (Nat.le_refl _) with ⟨g1, g2⟩ | ⟨e, g1, w1, g2, g3⟩
      · refine ⟨_, Rs, w, hex _ _ g2, .inl ⟨?_, rfl, rfl⟩, hm, Oth.refl w⟩
        rw [← h5]
        have := congrArg List.length hleft
        simp only [Array.length_toList, g1, List.length_map] at this
        rw [List.eq_nil_of_length_eq_zero this.symm]; rfl
      · rw [hleft] at g1
        obtain ⟨e0, he0, rfl⟩ := List.mem_map.1 g1
        obtain ⟨F1, F2, f1, f2⟩ := filter_split h4 he0
        have hw1 : w1.heap = w.heap := by rcases g2 with rfl | rfl <;> rfl
        refine ⟨_, _, _, hex _ _ g3, .inr ⟨F1.map (·.1), e0.1, F2.map (·.1), by rw [← h5, f1]; simp, rfl, rfl⟩, ?_, ?_⟩
        · refine hset _ (uni (one b (.map (es.map (entV kE vE)).toArray clock)) (one bi (.mapIter (some b) clock (seen.push e0.2) clock))) _ ⟨es, clock, seen.push e0.2, rfl, h2, h3, h4, by rw [f2]; simp, fun p hp => ⟨seen, e0, rfl, (List.mem_filter.1 he0).1, by cases hp; rfl⟩⟩ (Sub.uni ?_ ?_) (fun n hn hn0 => ?_)
          · show (w1.heap.setIfInBounds bi _)[b]? = _
            rw [hw1, Array.getElem?_setIfInBounds_ne (Ne.symm h2)]; exact hb
          · show (w1.heap.setIfInBounds bi _)[bi]? = _
            rw [hw1]
            exact (MapKept.heap_set hbi).1
          · obtain ⟨n1, n2⟩ := uni_inv hn0
            refine ⟨?_, uni_none n1 n2⟩
            show (w1.heap.setIfInBounds bi _)[n]? = _
            rw [hw1, Array.getElem?_setIfInBounds_ne (Ne.symm n2)]
        · have hsz : w.heap.size ≤ (w1.heap.setIfInBounds bi (.mapIter (some b) clock (seen.push e0.2) clock)).size := by rw [hw1]; simp
          rcases g2 with rfl | rfl
          · exact ⟨rfl, rfl, rfl, hsz, by first | exact Nat.le_refl _ | exact Nat.le_succ _⟩
          · exact ⟨rfl, rfl, rfl, hsz, by first | exact Nat.le_refl _ | exact Nat.le_succ _⟩)
    (fun v Rs' h => by
      rcases h with ⟨g1, rfl, rfl⟩ | ⟨t1, p, t2, g1, rfl, rfl⟩
      · exact hK0 g1
      · exact hK1 t1 p t2 g1)

theorem OpTo_entry {x : Operand} {b bi : Nat} {al todo : List (κ × ν)} (p : κ × ν) (i : Nat) (ho : o.op = .entry x) (hx : ev l x = some (.v (.pointer (some ⟨bi, 0, none⟩)))) (hi : Rs[i]? = some (mpItR kE vE b bi al todo (some p)))
    (hK : setd E.N o.dst (.v (.tuple #[kE p.1, vE p.2])) l fun l' => K l' Rs) : OpTo E l Rs o K :=
  OpTo_run (Qo := fun v Rs' => v = .tuple #[kE p.1, vE p.2] ∧ Rs' = Rs)
    (fun a w hf hm hio => by
      obtain ⟨h, ⟨es, clock, seen, h1, h2, h3, h4, h5, h6⟩, hs, hset⟩ := hm.open_ hi
      subst h1
      have hb := hs _ _ (uni_at1 (bi := bi) (o2 := .mapIter (some b) clock seen clock))
      have hbi := hs _ _ (uni_at2 h2)
      obtain ⟨seen0, e, rfl, he, rfl⟩ := h6 p rfl
      have hnd : ((es.map (entV kE vE)).map (·.born)).Nodup := by
        have e1 : (es.map (entV kE vE)).map (·.born) = es.map (·.2) := by rw [List.map_map]; rfl
        rw [e1]
        exact List.pairwise_map.2 (h4.born.imp fun h => Nat.ne_of_lt h)
      have := run_entry_at (P := E.P) w bi b clock seen0 (es.map (entV kE vE)).toArray clock (entV kE vE e) hbi hb (by simpa using List.mem_map.2 ⟨e, he, rfl⟩) (by simpa using hnd)
      refine ⟨_, Rs, w, ?_, ⟨rfl, rfl⟩, hm, Oth.refl w⟩
      simp only [execOp, ho, ev_sound hf hx, SV.val, Sem.run_bind, this]
      rfl)
    (fun u Rs' ⟨h1, h2⟩ => by subst h1 h2; exact hK)
end
end Go.RX

/- RX, part 17: ranges over functions: rounds, yields, the statement's end. -/
set_option autoImplicit false
set_option linter.unusedVariables false
set_option linter.unusedSimpArgs false
namespace Go.RX
open Go Go.RowKit

/-- A range's record. -/
abbrev loopR (L : Nat) (r : Loop) : Res := .hp fun h => h = one L (.loop r)

theorem Mod.loop_at {hfs : List PH} {Rs : List Res} {w : World} {i L : Nat} {r : Loop} (hm : Mod hfs Rs w) (hi : Rs[i]? = some (loopR L r)) : w.heap[L]? = some (.loop r) := by
  obtain ⟨h, h1, h2⟩ := hm.get hi
  have h1' : h = one L (.loop r) := h1
  subst h1'
  exact h2 _ _ (one_same _ _)

theorem Mod.setLoop {hfs : List PH} {Rs : List Res} {w : World} {i L : Nat} {r : Loop} (r' : Loop) (hm : Mod hfs Rs w) (hi : Rs[i]? = some (loopR L r)) : Mod hfs (Rs.set i (loopR L r')) (w.putObj L (.loop r')) :=
  hm.turn hi fun h h1 hs => by
    have h1' : h = one L (.loop r) := h1
    subst h1'
    have hb := hs _ _ (one_same _ _)
    refine ⟨one L (.loop r'), rfl, Sub.one (MapKept.heap_set hb).1, fun n _ hn => ?_⟩
    have hne : n ≠ L := fun e => by subst e; rw [one_same] at hn; cases hn
    exact ⟨(MapKept.heap_set hb).2 n hne, one_ne _ hne⟩

theorem Oth.put (w : World) (b : Nat) (o : Obj) : Oth w (w.putObj b o) := ⟨rfl, rfl, rfl, by simp [World.putObj], Nat.le_refl _⟩

/-! ### a list of operations, inside a fence -/
def fenceAt : Option Nat → Fence
  | none => Fence.wide
  | some l => Fence.wide.inRound l

theorem fenceAt_fn (ro : Option Nat) (f : Nat) : (fenceAt ro).fn f := by cases ro <;> trivial

theorem callsIn_at {P : Program} (ro : Option Nat) {n : Nat} {f : FuncId} {args : Array Value} {w : World} {R : Ending → World → Prop} (h : Calls P f args w R) : CallsIn (fenceAt ro) n P f args w R := by
  cases ro with
  | none => exact callsIn_wide.2 h
  | some l => exact CallsIn.inRound l (callsIn_wide.2 h)

theorem rowsIn_at {P : Program} (ro : Option Nat) {n : Nat} {row : String} {args : Array Value} {w : World} {R : Value → World → Prop} (h : Rows P row args w R) : RowsIn (fenceAt ro) n P row args w R := by
  intro c cs _
  obtain ⟨v, w', h1, h2⟩ := h c cs
  cases ro with
  | none => exact ⟨v, w', h1, stepsIn_wide.2 h2⟩
  | some l => exact ⟨v, w', h1, stepsIn_wide.2 h2⟩

def isDefer : Op → Bool
  | .defer _ => true
  | _ => false

/-- What a list of operations comes to, in a frame that may be a round's. -/
def OpsTo (E : Env) (ro : Option Nat) (ops : Array Oper) (rest : List Oper) (l : L) (Rs : List Res) (K : L → List Res → Prop) : Prop :=
  ∀ Q : Exit → Act → World → Prop, (∀ l' Rs' a w, K l' Rs' → Fr E.N a l' → Mod E.hfs Rs' w → Oth E.w0 w → Q .normal a w) →
    ∀ a w, Fr E.N a l → Mod E.hfs Rs w → Oth E.w0 w → wpListIn (fenceAt ro) 9 E.P ops Q rest a w

section
variable {E : Env} {ro : Option Nat} {ops : Array Oper} {rest : List Oper} {l : L} {Rs : List Res} {K : L → List Res → Prop} {o : Oper}

theorem OpsTo_nil (h : K l Rs) : OpsTo E ro ops [] l Rs K := fun Q hQ a w hf hm hio => hQ l Rs a w h hf hm hio

theorem OpsTo_cons (hg : wantB ops.toList l o = true) (hd : isDefer o.op = false) (h : OpTo E l Rs o fun l' Rs' => OpsTo E ro ops rest l' Rs' K) : OpsTo E ro ops (o :: rest) l Rs K := by
  intro Q hQ a w hf hm hio
  have h1 := h a w hf hm hio
  unfold wpListIn
  rw [if_pos (wantB_sound hf hg)]
  refine ⟨fun f _ => fenceAt_fn ro f, ?_⟩
  have hsem : o.semAt (fenceAt ro).round a.eval = execOp a.eval o := Oper.semAt_eq _ _ _ fun c e => by rw [e] at hd; cases hd
  rw [hsem]
  unfold Oper.wp at h1
  generalize (execOp a.eval o).run E.P w = r at h1 ⊢
  have go : ∀ a' w', (∃ l' Rs', OpsTo E ro ops rest l' Rs' K ∧ Fr E.N a' l' ∧ Mod E.hfs Rs' w' ∧ Oth E.w0 w') → wpListIn (fenceAt ro) 9 E.P ops Q rest a' w' := fun a' w' ⟨l', Rs', k1, k2, k3, k4⟩ => k1 Q hQ a' w' k2 k3 k4
  cases r with
  | halt x w' => cases x <;> simp only [Oper.upon] at h1
  | ok n w' =>
    cases n <;> simp only [Oper.upon] at h1 <;> simp only [Oper.uponIn]
    case value v => exact go _ _ h1
    case skip => exact go _ _ h1
    case defer d => exact go _ _ h1
    case enter f args =>
      refine ⟨fun hx => ?_, callsIn_at ro (h1.mono fun e w'' he => ?_)⟩
      · cases ro <;> cases hx
      · cases e with
        | returned v => exact go _ _ he
        | panicked c => exact he.elim
        | outgrown => obtain ⟨_, _, he⟩ := he; exact he.elim
    case row r args =>
      refine ⟨fun hx => ?_, rowsIn_at ro (h1.mono fun v w'' he => go _ _ he)⟩
      cases ro <;> cases hx

/-- A call of yield: a round. -/
theorem OpsTo_yield {c : Call} {x : Operand} {Lp : Nat} {vs : List Value} {Qc : Value → List Res → Prop} (ho : o.op = .call c) (hc : c.callee = .value x) (hx : ev l x = some (.v (.func (.yield Lp) #[] #[]))) (hv : evs l c.args.toList = some vs) (hg : wantB ops.toList l o = true)
    (hround : ∀ w, Mod E.hfs Rs w → Oth E.w0 w → ∃ r : Loop, w.heap[Lp]? = some (.loop r) ∧ vs.length = r.params.size ∧
      RoundIn Fence.wide 8 E.P Lp r.fn ((r.params.zip vs.toArray).foldl (fun tmps (t, a) => tmps.setIfInBounds t a) r.tmps) r.assign r.body w fun e w' => ∃ v Rs', e = .returned v ∧ Qc v Rs' ∧ Mod E.hfs Rs' w' ∧ Oth w w')
    (hK : ∀ v Rs', Qc v Rs' → setd E.N o.dst (.v v) l fun l' => OpsTo E none ops rest l' Rs' K) : OpsTo E none ops (o :: rest) l Rs K := by
  intro Q hQ a w hf hm hio
  obtain ⟨r, h1, h2, h3⟩ := hround w hm hio
  unfold wpListIn
  rw [if_pos (wantB_sound hf hg)]
  refine ⟨fun f _ => trivial, ?_⟩
  have hsem : o.semAt (fenceAt none).round a.eval = execOp a.eval o := Oper.semAt_eq _ _ _ fun c e => by rw [e] at ho; cases ho
  rw [hsem]
  have hargs : c.args.map a.eval = vs.toArray := by
    apply Array.toList_inj.1
    simp [evs_sound hf hv]
  have hrun : (execOp a.eval o).run E.P w = .ok (.round Lp r.fn ((r.params.zip vs.toArray).foldl (fun tmps (t, a) => tmps.setIfInBounds t a) r.tmps) r.assign r.body) w := by
    have hy := run_yield (P := E.P) (args := vs.toArray) h1 (by simpa using h2)
    simp only [execOp, ho, Sem.run_bind, resolve, hc, hargs, ev_sound hf hx, SV.val, Deferred.ofValue, Sem.run_pure, Result.andThen_ok, invoke]
    simpa using hy
  rw [hrun]
  simp only [Oper.uponIn]
  refine ⟨fun hx => (by cases hx), h3.mono fun e w' he => ?_⟩
  obtain ⟨v, Rs', rfl, k1, k2, k3⟩ := he
  obtain ⟨l', m1, m2⟩ := setd_sound (hK v Rs' k1) hf
  exact m1 Q hQ _ w' m2 k2 (hio.trans k3)

/-- A statement of which an operation is a call of yield. -/
theorem Go_regionIn {id : Nat} {k : List KI} (h : OpsTo E none ops ops.toList l Rs fun l' Rs' => Go E k l' Rs') : Go E (.code (.region id ops false) :: k) l Rs := by
  intro a w hf hm hio
  show (Code.region id ops false).wp E.P _ a w
  exact wpIn_wide.1 (wpIn_region_list (h _ (fun l' Rs' a w h1 h2 h3 h4 => h1 a w h2 h3 h4) a w hf hm hio))
end

/-! ### a round, out of its body -/
theorem roundIn_regions {P : Program} {tab : Tab} {N : Nat} {hfs : List PH} {w : World} {Rs : List Res} {i Lp : Nat} {r : Loop} {tmps : Array Value} {l : L} {f : FuncId} {ia ib ic : Nat} {opsA opsB : Array Oper} {KR : List Res → Prop}
    (hm : Mod hfs Rs w) (hi : Rs[i]? = some (loopR Lp r)) (hst : r.state = .ready) (hfr : Fr N { tmps := tmps, defers := [] } l)
    (hA : OpsTo { P := P, tab := tab, N := N, res := [], hfs := hfs, w0 := w, post := fun _ _ => False } (some Lp) opsA opsA.toList l Rs fun l1 Rs1 => Rs1[i]? = some (loopR Lp r) ∧
      OpsTo { P := P, tab := tab, N := N, res := [], hfs := hfs, w0 := w, post := fun _ _ => False } (some Lp) opsB opsB.toList l1 (Rs1.set i (loopR Lp { r with state := .busy })) fun l2 Rs2 => ∃ j r2, Rs2[j]? = some (loopR Lp r2) ∧ KR (Rs2.set j (loopR Lp { r2 with state := .ready, pending := none }))) :
    RoundIn Fence.wide 8 P Lp f tmps (.region ia opsA false) (.block ib (.region ic opsB false)) w fun e w' => ∃ v Rs', e = .returned v ∧ (v = .bool true ∧ KR Rs') ∧ Mod hfs Rs' w' ∧ Oth w w' := by
  have key : ∀ {F : Fence} {l : Nat} {f : FuncId} {tmps : Array Value} {assign body : Code} {w : World} {R : Ending → World → Prop} (hF : F.fn f),
      assign.wpIn (F.inRound l) 9 P (Exit.then (fun a₁ w₁ => ∃ w₂, (Instr.beginRound l).run P w₁ = .ok () w₂ ∧ body.wpIn (F.inRound l) 9 P (roundPost P l R) a₁ w₂) (fun _ _ _ => False)) { tmps := tmps, defers := [] } w → RoundIn F 9 P l f tmps assign body w R := fun hF h => roundIn_of_wpIn hF h
  have := key (F := Fence.wide) (l := Lp) (f := f) (tmps := tmps) (assign := .region ia opsA false) (body := .block ib (.region ic opsB false)) (w := w) (R := fun e w' => ∃ v Rs', e = .returned v ∧ (v = .bool true ∧ KR Rs') ∧ Mod hfs Rs' w' ∧ Oth w w') trivial ?_
  · exact ⟨this.1, fun c cs _ => this.2 c cs (room_wide _)⟩
  refine wpIn_region_list (hA _ (fun l1 Rs1 a1 w1 hK h1 h2 h3 => ?_) _ w hfr hm (Oth.refl w))
  obtain ⟨hi1, hB⟩ := hK
  refine ⟨_, run_beginRound (h2.loop_at hi1) hst, wpIn_block (wpIn_region_list (hB _ (fun l2 Rs2 a2 w2 hK2 g1 g2 g3 => ?_) a1 _ h1 (h2.setLoop _ hi1) (h3.trans (Oth.put _ _ _))))⟩
  obtain ⟨j, r2, hj, hKR⟩ := hK2
  exact ⟨_, _, run_endRound none (g2.loop_at hj), _, _, rfl, ⟨rfl, hKR⟩, g2.setLoop _ hj, g3.trans (Oth.put _ _ _)⟩

/-- What a range's record and what belongs to it do at each element. -/
def RoundsTo {κ : Type} (P : Program) (Lp M : Nat) (kE : κ → Value) (J : List κ → List Res → Prop) : Prop := ∀ (hfs : List PH) (pre : List κ) (Rj : List Res) (w : World) (k : κ), pre.length < M → J pre Rj → Mod hfs Rj w →
  ∃ r : Loop, w.heap[Lp]? = some (.loop r) ∧ 1 = r.params.size ∧ RoundIn Fence.wide 8 P Lp r.fn ((r.params.zip #[kE k]).foldl (fun tmps (t, a) => tmps.setIfInBounds t a) r.tmps) r.assign r.body w fun e w' => ∃ v Rs', e = .returned v ∧ (v = .bool true ∧ J (pre ++ [k]) Rs') ∧ Mod hfs Rs' w' ∧ Oth w w'

/-! ### the statement, and the function's end -/
theorem Fr.args {N : Nat} {args : List Value} (hle : args.length ≤ N) : Fr N { tmps := args.toArray ++ Array.replicate (N - args.toArray.size) undef, defers := [] } (argL args 0) := by
  refine ⟨rfl, by simp; omega, fun t s e => ?_⟩
  obtain ⟨_, h2⟩ := look_argL args 0 t s e
  have hlt : t < args.length := by
    have := (List.getElem?_eq_some_iff.1 h2).1
    simpa using this
  rw [Array.getElem?_append_left (by simpa using hlt)]
  simpa using h2

/-- A block of deferred calls, of none. -/
abbrev defR (D : Nat) : Res := .hp fun h => h = one D (.deferred (some []))

theorem Mod.def_at {hfs : List PH} {Rs : List Res} {w : World} {i D : Nat} (hm : Mod hfs Rs w) (hi : Rs[i]? = some (defR D)) : w.heap[D]? = some (.deferred (some [])) := by
  obtain ⟨h, h1, h2⟩ := hm.get hi
  have h1' : h = one D (.deferred (some [])) := h1
  subst h1'
  exact h2 _ _ (one_same _ _)

theorem Mod.newObj {hfs : List PH} {Rs : List Res} {w : World} (hm : Mod hfs Rs w) (o : Obj) : Mod hfs (.hp (fun h => h = one w.heap.size o) :: Rs) (w.alloc o) :=
  hm.add (h := one w.heap.size o) (fun n hn => (MapKept.heap_alloc w o).2 n hn) rfl (fun n hn => one_ne _ (Nat.ne_of_lt hn)) (Sub.one (MapKept.heap_alloc w o).1)

/-- Of a dropped block any turn is let by. -/
theorem Mod.putDropped {hfs : List PH} {Rs : List Res} {w : World} {D : Nat} (o : Obj) (hm : Mod hfs (defR D :: Rs) w) : Mod hfs Rs (w.putObj D o) := by
  have := hm.turn (i := 0) (R := defR D) (R' := .hp fun h => h = one D o) (w' := w.putObj D o) rfl fun h h1 hs => by
    have h1' : h = one D (.deferred (some [])) := h1
    subst h1'
    have hb := hs _ _ (one_same _ _)
    refine ⟨one D o, rfl, Sub.one (MapKept.heap_set hb).1, fun n _ hn => ?_⟩
    have hne : n ≠ D := fun e => by subst e; rw [one_same] at hn; cases hn
    exact ⟨(MapKept.heap_set hb).2 n hne, one_ne _ hne⟩
  exact this.drop (a := [_])

/-- The one call of a range over a function. -/
theorem run_rangeCall {P : Program} {a : Act} {g : Operand} {f : FuncId} {cap : Array Value} {Lp : Nat} {w : World} (hx : a.eval g = .func (.func f) #[] cap) (hf : callable P f = true) :
    ∃ d, (resolve a.eval (rangeCall g Lp) 0).run P w = .ok d w ∧ (invoke d.target d.args).run P w = .ok (.enter f (#[.func (.yield Lp) #[] #[]] ++ cap)) w := by
  refine ⟨{ target := .fn (.func f) cap, args := #[.func (.yield Lp) #[] #[]] }, ?_, ?_⟩
  · have e : ∀ v, a.eval (.const v) = v := fun _ => rfl
    simp [resolve, rangeCall, hx, e, Deferred.ofValue]
  · simp only [invoke]
    exact run_callFunc hf _ w

theorem wpListIn_val {F : Fence} {n : Nat} {P : Program} {ops : Array Oper} {Q : Exit → Act → World → Prop} {a : Act} {w w' : World} {rest : List Oper} {o : Oper} {v : Value} (hF : ∀ f, F.fn f) (hg : o.guard = none) (hd : isDefer o.op = false) (hrun : (execOp a.eval o).run P w = .ok (.value v) w')
    (h : wpListIn F n P ops Q rest (a.put o.dst v) w') : wpListIn F n P ops Q (o :: rest) a w := by
  refine wpListIn_plain hg fun K hK => ⟨fun f _ => hF f, ?_⟩
  have hsem : o.semAt F.round a.eval = execOp a.eval o := Oper.semAt_eq _ _ _ fun c e => by rw [e] at hd; cases hd
  rw [hsem, hrun]
  exact hK _ _ h

theorem wpListIn_val0 {F : Fence} {n : Nat} {P : Program} {ops : Array Oper} {Q : Exit → Act → World → Prop} {a : Act} {w : World} {rest : List Oper} {o : Oper} {v : Value} (hF : ∀ f, F.fn f) (hg : o.guard = none) (hd : isDefer o.op = false) (hrun : (execOp a.eval o).run P w = .ok (.value v) w)
    (h : wpListIn F n P ops Q rest (a.put o.dst v) w) : wpListIn F n P ops Q (o :: rest) a w := wpListIn_val hF hg hd hrun h

/-- A frame by slots, whatever calls it has put off. -/
theorem Fr.eval {N : Nat} {a : Act} {l : L} (ds : List Deferred) (h : Fr N a l) {x : Operand} {s : SV} (e : ev l x = some s) : ({ a with defers := ds } : Act).eval x = s.val := by
  have := ev_sound h e
  cases x <;> exact this

theorem LeavesIn_end {F : Fence} {n : Nat} {P : Program} {fn : Func} {tmps : Array Value} {R : Ending → World → Prop} {w : World} {v : Value} (h : (results fn tmps).run P w = .ok v w) (hR : R (.returned v) w) : LeavesInM F n P fn tmps R [] .returning w :=
  ⟨v, h, hR⟩

/-- The two parts of a range over a function that stands third in a function's body. -/
def loopParts : Option Code → Code × Code
  | some (.seq _ (.seq (.seq _ (.block _ (.rangeFunc _ _ a b))) _)) => (a, b)
  | _ => (.skip, .skip)

/-- That range's record, ready, as it is laid. -/
def loopOf (body : Option Code) (ps : Array Tmp) (fn : FuncId) (tmps : Array Value) (D : Nat) : Loop :=
  { state := .ready, pending := none, fn := fn, tmps := tmps, params := ps, assign := (loopParts body).1, body := (loopParts body).2, defers := D }
end Go.RX

/- RX, part 18: orders; what an insertion sort keeps; that a sorted list of the same elements, alike in order where their keys are the same, is one alone. No program. -/
set_option autoImplicit false
set_option linter.unusedVariables false
set_option linter.unusedSimpArgs false
namespace Go.RX
open Go Go.RowKit

theorem ex_byte {s : ByteArray} {n : Nat} {K : UInt8 → Prop} (hs : s.size = 256) (hn : n < 256) (h : ∀ b, K b) : ∃ b, s[n]? = some b ∧ K b :=
  ⟨s[n]'(by omega), getElem?_pos _ _ _, h _⟩

/-- A strict order of which two are alike only if they are one. -/
structure Ord {κ : Type} (lt : κ → κ → Bool) : Prop where
  irr : ∀ a, lt a a = false
  trans : ∀ a b c, lt a b = true → lt b c = true → lt a c = true
  tri : ∀ a b, lt a b = false → lt b a = false → a = b

theorem bytesLess_lt : ∀ (x y : List UInt8), Op.bytesLess x y = decide (x < y)
  | [], [] => by simp [Op.bytesLess]
  | a :: x, [] => by simp [Op.bytesLess]
  | [], b :: y => by simp [Op.bytesLess]
  | a :: x, b :: y => by
    simp only [Op.bytesLess, List.cons_lt_cons_iff, bytesLess_lt x y]
    by_cases h1 : a < b
    · simp [h1]
    · by_cases h2 : a = b
      · subst h2; simp
      · simp [h1, h2]

def ltI (a b : Int) : Bool := decide (a < b)
theorem ordI : Ord ltI := ⟨fun a => by simp [ltI], fun a b c => by simp [ltI]; omega, fun a b => by simp [ltI]; omega⟩

def ltS (a b : ByteArray) : Bool := Op.bytesLess a.toList b.toList
theorem toList_inj {a b : ByteArray} (h : a.toList = b.toList) : a = b := by
  rw [ByteArray.toList_eq, ByteArray.toList_eq] at h
  exact ByteArray.ext (Array.toList_inj.1 h)
theorem ordS : Ord ltS := by
  refine ⟨fun a => ?_, fun a b c h1 h2 => ?_, fun a b h1 h2 => toList_inj ?_⟩
  · simp only [ltS, bytesLess_lt, decide_eq_false_iff_not]
    exact List.lt_irrefl _
  · simp only [ltS, bytesLess_lt, decide_eq_true_eq] at *
    exact List.lt_trans h1 h2
  · simp only [ltS, bytesLess_lt, decide_eq_false_iff_not] at *
    exact List.le_antisymm (List.not_lt.1 h2) (List.not_lt.1 h1)

section
variable {κ α : Type} {lt : κ → κ → Bool}

theorem Ord.asym (o : Ord lt) {a b : κ} (h : lt a b = true) : lt b a = false := by
  cases hb : lt b a with
  | false => rfl
  | true => have := o.trans _ _ _ h hb; rw [o.irr] at this; cases this
theorem Ord.le_trans (o : Ord lt) {a b c : κ} (h1 : lt b a = false) (h2 : lt c b = false) : lt c a = false := by
  cases h : lt c a with
  | false => rfl
  | true =>
    cases hab : lt a b with
    | true => have := o.trans _ _ _ h hab; rw [this] at h2; cases h2
    | false => have e := o.tri _ _ hab h1; subst e; rw [h] at h2; cases h2

/-- Rising. -/
def Rise (lt : κ → κ → Bool) (key : α → κ) (xs : List α) : Prop := xs.Pairwise fun a b => lt (key b) (key a) = false

/-- The same elements; those of one key in the same order. -/
def SameBy [DecidableEq κ] (key : α → κ) (xs ys : List α) : Prop := ∀ k, (xs.filter fun x => decide (key x = k)) = ys.filter fun x => decide (key x = k)

theorem SameBy.refl [DecidableEq κ] (key : α → κ) (xs : List α) : SameBy key xs xs := fun _ => rfl
theorem SameBy.trans [DecidableEq κ] {key : α → κ} {xs ys zs : List α} (h : SameBy key xs ys) (h' : SameBy key ys zs) : SameBy key xs zs := fun k => (h k).trans (h' k)
theorem SameBy.symm [DecidableEq κ] {key : α → κ} {xs ys : List α} (h : SameBy key xs ys) : SameBy key ys xs := fun k => (h k).symm

theorem SameBy.mem [DecidableEq κ] {key : α → κ} {xs ys : List α} (h : SameBy key xs ys) (x : α) : x ∈ xs ↔ x ∈ ys := by
  have := h (key x)
  have h1 : x ∈ xs ↔ x ∈ xs.filter fun y => decide (key y = key x) := by simp
  have h2 : x ∈ ys ↔ x ∈ ys.filter fun y => decide (key y = key x) := by simp
  rw [h1, h2, this]

theorem SameBy.swap [DecidableEq κ] {key : α → κ} (pre post : List α) {a b : α} (hne : key a ≠ key b) : SameBy key (pre ++ a :: b :: post) (pre ++ b :: a :: post) := by
  intro k
  simp only [List.filter_append, List.filter_cons]
  by_cases ha : key a = k
  · have hb : key b ≠ k := fun e => hne (ha.trans e.symm)
    simp [ha, hb]
  · simp [ha]

/-- A sorted list of the same elements is one alone. -/
theorem Rise.unique [DecidableEq κ] (o : Ord lt) {key : α → κ} : ∀ {xs ys : List α}, Rise lt key xs → Rise lt key ys → SameBy key xs ys → xs = ys
  | [], ys, _, _, h => by
    cases ys with
    | nil => rfl
    | cons y r => have := (h.mem y).2 (by simp); simp at this
  | x :: xs, [], _, _, h => by have := (h.mem x).1 (by simp); simp at this
  | x :: xs, y :: ys, hx, hy, h => by
    have hx' := List.pairwise_cons.1 hx
    have hy' := List.pairwise_cons.1 hy
    have hk : key x = key y := by
      have m1 := (h.mem x).1 (by simp)
      have m2 := (h.mem y).2 (by simp)
      rcases List.mem_cons.1 m1 with e | m1
      · rw [e]
      rcases List.mem_cons.1 m2 with e | m2
      · rw [e]
      exact o.tri _ _ (hy'.1 x m1) (hx'.1 y m2)
    have he : x = y := by
      have := h (key x)
      simp only [List.filter_cons, decide_true, if_true, hk.symm] at this
      injection this
    subst he
    have : SameBy key xs ys := fun k => by
      have := h k
      simp only [List.filter_cons] at this
      split at this
      · injection this
      · exact this
    rw [Rise.unique o hx'.2 hy'.2 this]

/-! ### insertion -/
/-- In the midst of an insertion: the first 'i + 1' are in order but for the one at 'j', which may be less than those ahead of it. -/
structure Ins [DecidableEq κ] (lt : κ → κ → Bool) (key : α → κ) (xs ys : List α) (i j : Nat) : Prop where
  same : SameBy key xs ys
  len : ys.length = xs.length
  le : j ≤ i
  ilt : i < ys.length
  ord : ∀ a b (hb : b < ys.length) (hab : a < b), b ≤ i → b ≠ j → lt (key ys[b]) (key (ys[a]'(by omega))) = false

/-- The first 'i' are in order. -/
structure Upto [DecidableEq κ] (lt : κ → κ → Bool) (key : α → κ) (xs ys : List α) (i : Nat) : Prop where
  same : SameBy key xs ys
  len : ys.length = xs.length
  ord : ∀ a b (hb : b < ys.length) (hab : a < b), b < i → lt (key ys[b]) (key (ys[a]'(by omega))) = false

variable [DecidableEq κ] {key : α → κ} {xs ys : List α}

theorem Upto.start (xs : List α) : Upto lt key xs xs 1 := ⟨SameBy.refl _ _, rfl, fun a b _ hab h => by omega⟩
theorem Upto.ins {i : Nat} (h : Upto lt key xs ys i) (hi : i < ys.length) : Ins lt key xs ys i i := ⟨h.same, h.len, Nat.le_refl _, hi, fun a b hb hab h1 h2 => h.ord a b hb hab (by omega)⟩

theorem Ins.done (o : Ord lt) {i j : Nat} (h : Ins lt key xs ys i j) (hj : j = 0 ∨ ∃ (h0 : 0 < j) (h1 : j < ys.length), lt (key ys[j]) (key (ys[j - 1]'(by omega))) = false) : Upto lt key xs ys (i + 1) := by
  refine ⟨h.same, h.len, fun a b hb hab hbi => ?_⟩
  by_cases hbj : b = j
  · subst hbj
    rcases hj with hj | ⟨h0, h1, h2⟩
    · omega
    · by_cases haj : a = b - 1
      · subst haj; exact h2
      · exact o.le_trans (h.ord a (b - 1) (by omega) (by omega) (by omega) (by omega)) h2
  · exact h.ord a b hb hab (by omega) hbj

theorem swap_split {j : Nat} (h0 : 0 < j) (hj : j < ys.length) : ∃ pre post, ys = pre ++ ys[j - 1] :: ys[j] :: post ∧ (ys.set j ys[j - 1]).set (j - 1) ys[j] = pre ++ ys[j] :: ys[j - 1] :: post ∧ pre.length = j - 1 := by
  refine ⟨ys.take (j - 1), ys.drop (j + 1), ?_, ?_, by simp; omega⟩
  · have e1 : ys.drop (j - 1) = ys[j - 1] :: ys.drop (j - 1 + 1) := List.drop_eq_getElem_cons (by omega)
    have e2 : ys.drop j = ys[j] :: ys.drop (j + 1) := List.drop_eq_getElem_cons hj
    rw [show j - 1 + 1 = j from by omega, e2] at e1
    rw [← e1, List.take_append_drop]
  · apply List.ext_getElem?
    intro n
    simp only [List.getElem?_set, List.getElem?_append, List.length_take, List.length_set, List.getElem?_take]
    have hm : min (j - 1) ys.length = j - 1 := by omega
    rw [hm]
    by_cases h1 : n < j - 1
    · rw [if_neg (by omega), if_neg (by omega), if_pos h1, if_pos h1]
    · rw [if_neg h1]
      by_cases h2 : j - 1 = n
      · subst h2
        rw [if_pos rfl, if_pos (by omega)]
        simp
      · rw [if_neg h2]
        by_cases h3 : j = n
        · subst h3
          rw [if_pos rfl, if_pos hj, show j - (j - 1) = 1 from by omega]
          rfl
        · rw [if_neg h3, show n - (j - 1) = (n - (j + 1)) + 2 from by omega]
          simp only [List.getElem?_cons_succ, List.getElem?_drop]
          congr 1; omega

theorem Ins.swap (o : Ord lt) {i j : Nat} (h : Ins lt key xs ys i j) (h0 : 0 < j) (hj : j < ys.length) (hlt : lt (key ys[j]) (key ys[j - 1]) = true) : Ins lt key xs ((ys.set j ys[j - 1]).set (j - 1) ys[j]) i (j - 1) := by
  have hle := h.le
  have hl := h.ilt
  have hne : key ys[j - 1] ≠ key ys[j] := fun e => by rw [e, o.irr] at hlt; cases hlt
  obtain ⟨pre, post, e1, e2, e3⟩ := swap_split h0 hj
  refine ⟨h.same.trans ?_, by simp [h.len], by omega, by simp; omega, fun a b hb hab hbi hbj => ?_⟩
  · rw [e2]
    conv => lhs; rw [e1]
    exact SameBy.swap pre post hne
  · simp only [List.length_set] at hb
    simp only [List.getElem_set]
    have g : ∀ a b (hb : b < ys.length) (hab : a < b), b ≤ i → b ≠ j → lt (key ys[b]) (key (ys[a]'(by omega))) = false := h.ord
    by_cases b1 : j - 1 = b
    · omega
    rw [if_neg b1]
    by_cases b2 : j = b
    · subst b2
      rw [if_pos rfl]
      by_cases a1 : j - 1 = a
      · rw [if_pos a1]; exact o.asym hlt
      · rw [if_neg a1, if_neg (by omega)]
        exact g a (j - 1) (by omega) (by omega) (by omega) (by omega)
    · rw [if_neg b2]
      by_cases a1 : j - 1 = a
      · rw [if_pos a1]
        exact g j b hb (by omega) hbi (Ne.symm b2)
      · rw [if_neg a1]
        by_cases a2 : j = a
        · subst a2
          rw [if_pos rfl]
          exact g (j - 1) b hb (by omega) hbi (Ne.symm b2)
        · rw [if_neg a2]
          exact g a b hb hab hbi (Ne.symm b2)

theorem SameBy.perm {xs ys : List κ} (h : SameBy (fun x => x) xs ys) : xs.Perm ys := List.perm_iff_count.2 fun k => by
  have := congrArg List.length (h k)
  rw [List.count_eq_length_filter, List.count_eq_length_filter]
  have e : (fun x : κ => x == k) = fun x => decide (x = k) := by funext x; by_cases hx : x = k <;> simp [hx]
  rw [e]
  exact this

theorem Upto.rise {i : Nat} (h : Upto lt key xs ys i) (hi : ys.length ≤ i) : Rise lt key ys := by
  rw [Rise, List.pairwise_iff_getElem]
  intro a b ha hb hab
  exact h.ord a b hb hab (by omega)
end
end Go.RX

/- RX, part 19: what a stable sort by blocks and merges keeps. No program. -/
set_option autoImplicit false
set_option linter.unusedVariables false
set_option linter.unusedSectionVars false
set_option linter.unusedSimpArgs false
namespace Go.RX
open Go Go.RowKit

/-- What a function value that compares answers, in every world. -/
def AnsC {α : Type} (P : Program) (f : FuncId) (first cap : Array Value) (mk : α → Value) (cp : α → α → Int) : Prop :=
  ∀ (x y : α) (w : World), Calls P f (first.toList ++ [mk x, mk y] ++ cap.toList).toArray w fun e w' => e = .returned (.int .i64 (cp x y)) ∧ BelowD w.heap.size w w'

/-- The sign of what is answered says the order. -/
def Cmps {κ α : Type} (lt : κ → κ → Bool) (key : α → κ) (cp : α → α → Int) : Prop := ∀ x y, decide (cp x y < 0) = lt (key x) (key y)

section
variable {α : Type}
theorem get_mid {P Q : List α} {x : α} {n : Nat} (h : n = P.length) : (P ++ x :: Q)[n]? = some x := by subst h; simp
theorem set_mid {P Q : List α} {x y : α} {n : Nat} (h : n = P.length) : (P ++ x :: Q).set n y = P ++ y :: Q := by subst h; simp
theorem get_in {P X S : List α} {i : Nat} (h : i < X.length) : (P ++ X ++ S)[P.length + i]? = some X[i] := by
  rw [List.append_assoc, List.getElem?_append_right (by omega), Nat.add_sub_cancel_left, List.getElem?_append_left h, List.getElem?_eq_getElem h]
theorem set_in {P X S : List α} {i : Nat} {u : α} (h : i < X.length) : (P ++ X ++ S).set (P.length + i) u = P ++ X.set i u ++ S := by
  rw [List.append_assoc, List.set_append_right _ _ (by omega), Nat.add_sub_cancel_left, List.set_append_left _ _ h, List.append_assoc]
theorem len_in {P X S : List α} {i : Nat} (h : i < X.length) : P.length + i < (P ++ X ++ S).length := by simp; omega

/-- 'x' stands behind 'j' of them. -/
def put (P : List α) (x : α) (V S : List α) (j : Nat) : List α := P ++ (V.take j ++ x :: V.drop j) ++ S
theorem put_len {P V S : List α} {x : α} {j : Nat} (h : j ≤ V.length) : (put P x V S j).length = P.length + V.length + 1 + S.length := by simp [put]; omega
theorem put_get {P V S : List α} {x : α} {j : Nat} (h : j ≤ V.length) : (put P x V S j)[P.length + j]? = some x := by
  have e : put P x V S j = (P ++ V.take j) ++ x :: (V.drop j ++ S) := by simp [put]
  rw [e]; exact get_mid (by simp; omega)
theorem put_get1 {P V S : List α} {x : α} {j : Nat} (h : j < V.length) : (put P x V S j)[P.length + j + 1]? = some V[j] := by
  have e : put P x V S j = (P ++ V.take j ++ [x]) ++ V[j] :: (V.drop (j + 1) ++ S) := by
    simp only [put, List.drop_eq_getElem_cons h, List.append_assoc, List.cons_append, List.nil_append, List.singleton_append]
  rw [e]; exact get_mid (by simp; omega)
theorem put_get0 {P V S : List α} {x : α} {j : Nat} (h : j < V.length) : (put P x V S (j + 1))[P.length + j]? = some V[j] := by
  have e : put P x V S (j + 1) = (P ++ V.take j) ++ V[j] :: (x :: V.drop (j + 1) ++ S) := by
    simp only [put, List.take_succ_eq_append_getElem h, List.append_assoc, List.cons_append, List.nil_append, List.singleton_append]
  rw [e]; exact get_mid (by simp; omega)
/-- Up. -/
theorem put_up {P V S : List α} {x : α} {j : Nat} (h : j < V.length) : ((put P x V S j).set (P.length + j) V[j]).set (P.length + j + 1) x = put P x V S (j + 1) := by
  have e : put P x V S j = (P ++ V.take j) ++ x :: V[j] :: (V.drop (j + 1) ++ S) := by
    simp only [put, List.drop_eq_getElem_cons h, List.append_assoc, List.cons_append, List.nil_append]
  have e2 : put P x V S (j + 1) = (P ++ V.take j) ++ V[j] :: x :: (V.drop (j + 1) ++ S) := by
    simp only [put, List.take_succ_eq_append_getElem h, List.append_assoc, List.cons_append, List.nil_append, List.singleton_append]
  have hl : P.length + j = (P ++ V.take j).length := by simp; omega
  rw [e, set_mid hl, e2]
  have e3 : (P ++ V.take j) ++ V[j] :: V[j] :: (V.drop (j + 1) ++ S) = (P ++ V.take j ++ [V[j]]) ++ V[j] :: (V.drop (j + 1) ++ S) := by simp only [List.append_assoc, List.cons_append, List.nil_append]
  rw [e3, set_mid (by simp; omega)]
  simp only [List.append_assoc, List.cons_append, List.nil_append]
/-- Down. -/
theorem put_down {P V S : List α} {x : α} {j : Nat} (h : j < V.length) : ((put P x V S (j + 1)).set (P.length + (j + 1)) V[j]).set (P.length + j) x = put P x V S j := by
  have e : put P x V S j = (P ++ V.take j) ++ x :: V[j] :: (V.drop (j + 1) ++ S) := by
    simp only [put, List.drop_eq_getElem_cons h, List.append_assoc, List.cons_append, List.nil_append]
  have e2 : put P x V S (j + 1) = (P ++ V.take j ++ [V[j]]) ++ x :: (V.drop (j + 1) ++ S) := by
    simp only [put, List.take_succ_eq_append_getElem h, List.append_assoc, List.cons_append, List.nil_append, List.singleton_append]
  rw [e2, set_mid (by simp; omega), e]
  have e3 : (P ++ V.take j ++ [V[j]]) ++ V[j] :: (V.drop (j + 1) ++ S) = (P ++ V.take j) ++ V[j] :: V[j] :: (V.drop (j + 1) ++ S) := by simp only [List.append_assoc, List.cons_append, List.nil_append]
  rw [e3, set_mid (by simp; omega)]

/-- The first 'i' of two rows that are as long are exchanged. -/
def swp (P X M Y S : List α) (i : Nat) : List α := P ++ (Y.take i ++ X.drop i) ++ M ++ (X.take i ++ Y.drop i) ++ S
theorem swp_len {P X M Y S : List α} {i : Nat} (h : X.length = Y.length) (hi : i ≤ X.length) : (swp P X M Y S i).length = P.length + X.length + M.length + Y.length + S.length := by simp [swp]; omega
theorem swp_get1 {P X M Y S : List α} {i : Nat} (h : X.length = Y.length) (hi : i < X.length) : (swp P X M Y S i)[P.length + i]? = some X[i] := by
  have e : swp P X M Y S i = (P ++ Y.take i) ++ X[i] :: (X.drop (i + 1) ++ M ++ (X.take i ++ Y.drop i) ++ S) := by
    simp only [swp, List.drop_eq_getElem_cons hi, List.append_assoc, List.cons_append, List.nil_append]
  rw [e]; exact get_mid (by simp; omega)
theorem swp_get2 {P X M Y S : List α} {i : Nat} (h : X.length = Y.length) (hi : i < X.length) (hj : i < Y.length) : (swp P X M Y S i)[P.length + X.length + M.length + i]? = some Y[i] := by
  have e : swp P X M Y S i = (P ++ (Y.take i ++ X.drop i) ++ M ++ X.take i) ++ Y[i] :: (Y.drop (i + 1) ++ S) := by
    simp only [swp, List.drop_eq_getElem_cons hj, List.append_assoc, List.cons_append, List.nil_append]
  rw [e]; exact get_mid (by simp; omega)
theorem swp_step {P X M Y S : List α} {i : Nat} (h : X.length = Y.length) (hi : i < X.length) (hj : i < Y.length) :
    ((swp P X M Y S i).set (P.length + i) Y[i]).set (P.length + X.length + M.length + i) X[i] = swp P X M Y S (i + 1) := by
  have e : swp P X M Y S i = (P ++ Y.take i) ++ X[i] :: (X.drop (i + 1) ++ M ++ (X.take i ++ Y.drop i) ++ S) := by
    simp only [swp, List.drop_eq_getElem_cons hi, List.append_assoc, List.cons_append, List.nil_append]
  rw [e, set_mid (by simp; omega)]
  have e3 : (P ++ Y.take i) ++ Y[i] :: (X.drop (i + 1) ++ M ++ (X.take i ++ Y.drop i) ++ S) = (P ++ (Y.take i ++ [Y[i]]) ++ X.drop (i + 1) ++ M ++ X.take i) ++ Y[i] :: (Y.drop (i + 1) ++ S) := by
    conv => lhs; rw [List.drop_eq_getElem_cons hj]
    simp only [List.append_assoc, List.cons_append, List.nil_append]
  rw [e3, set_mid (by simp; omega)]
  simp only [swp, List.take_succ_eq_append_getElem hi, List.take_succ_eq_append_getElem hj, List.append_assoc, List.cons_append, List.nil_append, List.singleton_append]
theorem swp_zero {P X M Y S : List α} : swp P X M Y S 0 = P ++ X ++ M ++ Y ++ S := by simp [swp]
theorem swp_full {P X M Y S : List α} {n : Nat} (h : X.length = n) (h' : Y.length = n) : swp P X M Y S n = P ++ Y ++ M ++ X ++ S := by
  simp [swp, List.take_of_length_le (Nat.le_of_eq h), List.take_of_length_le (Nat.le_of_eq h'), List.drop_eq_nil_of_le (Nat.le_of_eq h), List.drop_eq_nil_of_le (Nat.le_of_eq h')]
end

section
variable {κ α : Type} {lt : κ → κ → Bool} [DecidableEq κ] {key : α → κ}

theorem SameBy.append {xs ys zs ws : List α} (h : SameBy key xs ys) (h' : SameBy key zs ws) : SameBy key (xs ++ zs) (ys ++ ws) := fun k => by rw [List.filter_append, List.filter_append, h k, h' k]
/-- Two rows whose keys are apart may be exchanged. -/
theorem SameBy.comm {xs ys : List α} (h : ∀ x ∈ xs, ∀ y ∈ ys, key x ≠ key y) : SameBy key (xs ++ ys) (ys ++ xs) := by
  intro k
  simp only [List.filter_append]
  by_cases hx : ∃ x ∈ xs, key x = k
  · obtain ⟨x, hx, rfl⟩ := hx
    have : ys.filter (fun y => decide (key y = key x)) = [] := List.filter_eq_nil_iff.2 fun y hy => by simpa using fun e => h x hx y hy e.symm
    simp [this]
  · have : xs.filter (fun x => decide (key x = k)) = [] := List.filter_eq_nil_iff.2 fun x h' => by simpa using fun e => hx ⟨x, h', e⟩
    simp [this]

theorem Rise.append {xs ys : List α} (h1 : Rise lt key xs) (h2 : Rise lt key ys) (h : ∀ x ∈ xs, ∀ y ∈ ys, lt (key y) (key x) = false) : Rise lt key (xs ++ ys) := List.pairwise_append.2 ⟨h1, h2, h⟩
theorem Rise.left {xs ys : List α} (h : Rise lt key (xs ++ ys)) : Rise lt key xs := (List.pairwise_append.1 h).1
theorem Rise.right {xs ys : List α} (h : Rise lt key (xs ++ ys)) : Rise lt key ys := (List.pairwise_append.1 h).2.1
theorem Rise.across {xs ys : List α} (h : Rise lt key (xs ++ ys)) : ∀ x ∈ xs, ∀ y ∈ ys, lt (key y) (key x) = false := (List.pairwise_append.1 h).2.2
theorem Rise.take {xs : List α} (h : Rise lt key xs) (n : Nat) : Rise lt key (xs.take n) := by
  have := h; rw [← List.take_append_drop n xs] at this; exact this.left
theorem Rise.drop {xs : List α} (h : Rise lt key xs) (n : Nat) : Rise lt key (xs.drop n) := by
  have := h; rw [← List.take_append_drop n xs] at this; exact this.right
theorem Rise.at_ (o : Ord lt) {xs : List α} (h : Rise lt key xs) {i j : Nat} {a b : α} (ha : xs[i]? = some a) (hb : xs[j]? = some b) (hij : i ≤ j) : lt (key b) (key a) = false := by
  obtain ⟨h1, rfl⟩ := List.getElem?_eq_some_iff.1 ha
  obtain ⟨h2, rfl⟩ := List.getElem?_eq_some_iff.1 hb
  rcases Nat.lt_or_eq_of_le hij with hlt | rfl
  · exact List.pairwise_iff_getElem.1 h i j h1 h2 hlt
  · exact o.irr _

theorem Ord.lt_of_le_lt (o : Ord lt) {a b c : κ} (h1 : lt b a = false) (h2 : lt b c = true) : lt a c = true := by
  cases h : lt a c with
  | true => rfl
  | false => have := o.le_trans h h1; rw [h2] at this; cases this
theorem Ord.lt_of_lt_le (o : Ord lt) {a b c : κ} (h1 : lt a b = true) (h2 : lt c b = false) : lt a c = true := by
  cases h : lt a c with
  | true => rfl
  | false => have := o.le_trans h2 h; rw [h1] at this; cases this

theorem mem_take_at {xs : List α} {n : Nat} {x : α} (h : x ∈ xs.take n) : ∃ i, i < n ∧ xs[i]? = some x := by
  obtain ⟨i, hi, e⟩ := List.mem_take_iff_getElem.1 h
  exact ⟨i, by omega, e ▸ List.getElem?_eq_getElem _⟩
theorem mem_drop_at {xs : List α} {n : Nat} {x : α} (h : x ∈ xs.drop n) : ∃ i, n ≤ i ∧ xs[i]? = some x := by
  obtain ⟨i, hi⟩ := List.mem_iff_getElem?.1 h
  rw [List.getElem?_drop] at hi
  exact ⟨n + i, by omega, hi⟩

/-- Where two rising rows are cut. -/
theorem cut_le (o : Ord lt) {U V : List α} {t u : Nat} (hU : Rise lt key U) (hV : Rise lt key V)
    (h : t = 0 ∨ V.length ≤ u ∨ ∃ x y, U[t - 1]? = some x ∧ V[u]? = some y ∧ lt (key y) (key x) = false) : ∀ x ∈ U.take t, ∀ y ∈ V.drop u, lt (key y) (key x) = false := by
  intro x hx y hy
  obtain ⟨i, hi, ex⟩ := mem_take_at hx
  obtain ⟨j, hj, ey⟩ := mem_drop_at hy
  rcases h with rfl | h | ⟨x', y', h1, h2, h3⟩
  · omega
  · have := (List.getElem?_eq_some_iff.1 ey).1; omega
  · exact o.le_trans (hU.at_ o ex h1 (by omega)) (o.le_trans h3 (hV.at_ o h2 ey hj))
theorem cut_lt (o : Ord lt) {U V : List α} {t u : Nat} (hU : Rise lt key U) (hV : Rise lt key V)
    (h : U.length ≤ t ∨ u = 0 ∨ ∃ x y, U[t]? = some x ∧ V[u - 1]? = some y ∧ lt (key y) (key x) = true) : ∀ y ∈ V.take u, ∀ x ∈ U.drop t, lt (key y) (key x) = true := by
  intro y hy x hx
  obtain ⟨i, hi, ex⟩ := mem_drop_at hx
  obtain ⟨j, hj, ey⟩ := mem_take_at hy
  rcases h with h | rfl | ⟨x', y', h1, h2, h3⟩
  · have := (List.getElem?_eq_some_iff.1 ex).1; omega
  · omega
  · exact o.lt_of_le_lt (hV.at_ o ey h2 (by omega)) (o.lt_of_lt_le h3 (hU.at_ o h1 ex hi))

/-- Both halves merged: all is merged. -/
theorem merge_ok (o : Ord lt) {A1 A2 B1 B2 W1 W2 : List α} (hU : Rise lt key (A1 ++ A2)) (hV : Rise lt key (B1 ++ B2)) (h1 : ∀ x ∈ A1, ∀ y ∈ B2, lt (key y) (key x) = false) (h2 : ∀ y ∈ B1, ∀ x ∈ A2, lt (key y) (key x) = true)
    (s1 : SameBy key (A1 ++ B1) W1) (r1 : Rise lt key W1) (s2 : SameBy key (A2 ++ B2) W2) (r2 : Rise lt key W2) : SameBy key (A1 ++ A2 ++ (B1 ++ B2)) (W1 ++ W2) ∧ Rise lt key (W1 ++ W2) := by
  constructor
  · have e : A1 ++ A2 ++ (B1 ++ B2) = A1 ++ ((A2 ++ B1) ++ B2) := by simp
    have e2 : A1 ++ ((B1 ++ A2) ++ B2) = (A1 ++ B1) ++ (A2 ++ B2) := by simp
    rw [e]
    refine SameBy.trans ((SameBy.refl _ A1).append ((SameBy.comm fun x hx y hy hk => ?_).append (SameBy.refl _ B2))) ?_
    · have := h2 y hy x hx; rw [hk, o.irr] at this; cases this
    · rw [e2]; exact s1.append s2
  · refine r1.append r2 fun x hx y hy => ?_
    rcases List.mem_append.1 ((s1.mem x).2 hx) with hx | hx <;> rcases List.mem_append.1 ((s2.mem y).2 hy) with hy | hy
    · exact hU.across x hx y hy
    · exact h1 x hx y hy
    · exact o.asym (h2 x hx y hy)
    · exact hV.across x hx y hy

/-- One is put into a rising row. -/
theorem put_ok (o : Ord lt) {x : α} {V : List α} {t : Nat} (hV : Rise lt key V) (h1 : ∀ y ∈ V.take t, lt (key y) (key x) = true) (h2 : ∀ y ∈ V.drop t, lt (key y) (key x) = false) :
    SameBy key (x :: V) (V.take t ++ x :: V.drop t) ∧ Rise lt key (V.take t ++ x :: V.drop t) := by
  constructor
  · have e : x :: V = ([x] ++ V.take t) ++ V.drop t := by simp
    have e2 : V.take t ++ x :: V.drop t = (V.take t ++ [x]) ++ V.drop t := by simp
    rw [e, e2]
    refine (SameBy.comm fun a ha y hy hk => ?_).append (SameBy.refl _ _)
    have := h1 y hy
    simp at ha; subst ha
    rw [hk, o.irr] at this; cases this
  · refine (hV.take t).append (List.pairwise_cons.2 ⟨h2, hV.drop t⟩) fun a ha y hy => ?_
    rcases List.mem_cons.1 hy with rfl | hy
    · exact o.asym (h1 a ha)
    · have := hV; rw [← List.take_append_drop t V] at this
      exact this.across a ha y hy
theorem put_ok' (o : Ord lt) {x : α} {U : List α} {t : Nat} (hU : Rise lt key U) (h1 : ∀ y ∈ U.take t, lt (key x) (key y) = false) (h2 : ∀ y ∈ U.drop t, lt (key x) (key y) = true) :
    SameBy key (U ++ [x]) (U.take t ++ x :: U.drop t) ∧ Rise lt key (U.take t ++ x :: U.drop t) := by
  constructor
  · have e : U ++ [x] = U.take t ++ (U.drop t ++ [x]) := by rw [← List.append_assoc, List.take_append_drop]
    have e2 : U.take t ++ x :: U.drop t = U.take t ++ ([x] ++ U.drop t) := by simp
    rw [e, e2]
    refine (SameBy.refl _ _).append (SameBy.comm fun y hy a ha hk => ?_)
    have := h2 y hy
    simp at ha; subst ha
    rw [hk, o.irr] at this; cases this
  · refine (hU.take t).append (List.pairwise_cons.2 ⟨fun y hy => o.asym (h2 y hy), hU.drop t⟩) fun a ha y hy => ?_
    rcases List.mem_cons.1 hy with rfl | hy
    · exact h1 a ha
    · have := hU; rw [← List.take_append_drop t U] at this
      exact this.across a ha y hy

/-! ### blocks -/
/-- Each block of 'bs' rises. -/
def Chk (lt : κ → κ → Bool) (key : α → κ) (bs : Nat) (ys : List α) : Prop := ∀ k, Rise lt key ((ys.drop (k * bs)).take bs)

theorem Chk.nil (bs : Nat) : Chk lt key bs ([] : List α) := fun k => by simp [Rise]
theorem Chk.head {bs : Nat} {ys : List α} (h : Chk lt key bs ys) : Rise lt key (ys.take bs) := by simpa using h 0
theorem Chk.tail {bs : Nat} {ys : List α} (h : Chk lt key bs ys) : Chk lt key bs (ys.drop bs) := fun k => by
  have := h (k + 1)
  rw [List.drop_drop, show bs + k * bs = (k + 1) * bs from by rw [Nat.add_mul]; omega]
  exact this
theorem Chk.one {bs : Nat} {W : List α} (h : Rise lt key W) (hw : W.length ≤ bs) : Chk lt key bs W := fun k => by
  cases k with
  | zero => simpa using h.take bs
  | succ k =>
    rw [List.drop_eq_nil_of_le (by rw [Nat.add_mul]; omega)]
    simp [Rise]
theorem Chk.append {bs q : Nat} {D W : List α} (hD : Chk lt key bs D) (hq : D.length = q * bs) (hW : Chk lt key bs W) : Chk lt key bs (D ++ W) := fun k => by
  by_cases hk : k < q
  · have : (k + 1) * bs ≤ q * bs := Nat.mul_le_mul_right _ hk
    rw [Nat.add_mul, Nat.one_mul] at this
    rw [List.drop_append_of_le_length (by omega), List.take_append_of_le_length (by simp; omega)]
    exact hD k
  · have e : k * bs = D.length + (k - q) * bs := by
      rw [hq, ← Nat.add_mul]; congr 1; omega
    rw [e, ← List.drop_drop, List.drop_left]
    exact hW (k - q)
end

/-! ### walking -/
/-- A place where ways come together, shown last. -/
theorem Go_join {E : Env} {k : List KI} {σ : Type} (Lf : σ → L) (Rf : σ → List Res) (Inv : σ → Prop) {X : Prop} (main : (∀ s, Inv s → ∀ l Rs, subL (Lf s) l → (∀ w, Mod E.hfs Rs w → Mod E.hfs (Rf s) w) → Go E k l Rs) → X) (rest : ∀ s, Inv s → Go E k (Lf s) (Rf s)) : X :=
  main fun s hs l Rs hl hR a w hf hm hio => rest s hs a w (subL_sound hl hf) (hR w hm) hio
theorem run_shr1 {P : Program} {t : TypeId} {x y : Operand} (n : Int) (w : World) : (binRun .shr t x y (.int .u64 n) (.int .u64 1)).run P w = .ok (.int .u64 (n / 2)) w := by
  simp [binRun, eqGuard_int, binOp, Op.shift, IntKind.bits, Int.fdiv_eq_ediv_of_nonneg]
end Go.RX

/- RX, part 20: cap; the append of so many zeros to nothing. -/
set_option autoImplicit false
set_option linter.unusedVariables false
set_option linter.unusedSectionVars false
set_option linter.unusedSimpArgs false
namespace Go.RX
open Go Go.RowKit

section
variable {E : Env} {l : L} {Rs : List Res} {o : Oper} {K : L → List Res → Prop} {α : Type} {enc : α → List Value} {k : Nat}

theorem OpTo_cap (ht : TabOk E.P E.tab) {sT e : TypeId} {x : Operand} {A : Option Addr} {n c : Nat} (ho : o.op = .call { callee := .builtin .cap, args := #[x], argTypes := #[sT] }) (hx : ev l x = some (.v (.slice A n c))) (hs : kindIs E.tab sT = some (.slice e))
    (hK : setd E.N o.dst (.v (.int .i64 c)) l fun l' => K l' Rs) : OpTo E l Rs o K :=
  OpTo_run (Qo := fun v Rs' => v = .int .i64 c ∧ Rs' = Rs)
    (fun a w hf hmod hio => by
      obtain ⟨d, hd, hdk⟩ := kind_spec ht hs
      simp only [TK.ok] at hdk; subst hdk
      refine ⟨_, Rs, w, ?_, ⟨rfl, rfl⟩, hmod, Oth.refl w⟩
      simp only [execOp, ho, Sem.run_bind, resolve, invoke, builtin]
      simp [ev_sound hf hx, SV.val, Builtin.cap_, run_underlying' hd, goInt])
    (fun v Rs' ⟨h1, h2⟩ => by subst h1 h2; exact hK)

theorem OpTo_grow (ht : TabOk E.P E.tab) (he : IsEnc enc k) {sT xT e : TypeId} {x y : Operand} {n : Nat} {ti : TyI} (z : α)
    (ho : o.op = .call { callee := .builtin .append, args := #[x, y], argTypes := #[sT, xT] }) (hx : ev l x = some (.v (.slice none 0 0))) (hy : ev l y = some (.v (.int .i64 n)))
    (hs : kindIs E.tab sT = some (.slice e)) (hxT : kindIs E.tab xT = some (.int .i64)) (hti : tlook E.tab e = some ti) (hk : ti.size = k) (hz : ti.zero.cells.toList = enc z) (h0 : 0 < n) (hbd : n * ti.bytes ≤ 140737488355328) (hmx : n ≤ 4611686018427387904)
    (hK : ∀ b c, setd E.N o.dst (.v (.slice (some ⟨b, 0, none⟩) n c)) l fun l' => K l' (own enc k e (some ⟨b, 0, none⟩) c (List.replicate n z) :: Rs)) : OpTo E l Rs o K :=
  OpTo_run (Qo := fun v Rs' => ∃ b c, v = .slice (some ⟨b, 0, none⟩) n c ∧ Rs' = own enc k e (some ⟨b, 0, none⟩) c (List.replicate n z) :: Rs)
    (fun a w hf hmod hio => by
      obtain ⟨d, hd, hdk⟩ := kind_spec ht hs
      simp only [TK.ok] at hdk; subst hdk
      obtain ⟨d', hd', hdk'⟩ := kind_spec ht hxT
      simp only [TK.ok] at hdk'; subst hdk'
      have hok := ht e ti hti
      obtain ⟨inf, hinf, hinfb⟩ : ∃ inf : TypeInfo, (∀ w, (typeInfo e).run E.P w = .ok inf w) ∧ inf.bytes = ti.bytes := by
        obtain ⟨x, hx, e1⟩ := Option.map_eq_some_iff.1 hok.info
        simp only [Prod.mk.injEq] at e1
        exact ⟨x, fun w => by simp [typeInfo, program, Sem.run, hx], e1.2.1⟩
      have hsz : ∀ w, (sizeOf e).run E.P w = .ok k w := fun w => by rw [← hk]; exact hok.run_size
      have hzr : ∀ w, (zeroValue e).run E.P w = .ok ti.zero w := fun w => hok.run_zero
      have hzl : ti.zero.cells.toList.length = k := by rw [hz, he.len]
      have hfit := growslice_fits (bytes := ti.bytes) (need := n) (old := 0) h0 hbd
      let q : Question := .appendCap n 0 e
      let t := w.tape w.drawn q
      have hcut : q.cut t = n + t % (2 ^ 63 - n) := rfl
      have hlt := Nat.mod_lt t (show 0 < 2 ^ 63 - n by omega)
      let nc := q.cut t
      have hnc : n ≤ nc ∧ nc ≤ 9223372036854775807 := by
        show n ≤ q.cut t ∧ q.cut t ≤ _
        rw [hcut]; omega
      let w1 : World := { w with drawn := w.drawn + 1 }
      let tl := (Builtin.zeroCells ti.zero.cells (nc - n)).toList
      let w' : World := { w1 with heap := w.heap.push (.cells ((Builtin.zeroCells ti.zero.cells n).toList ++ tl).toArray e (0, 0)) }
      have hroomE : ∀ n w, (askRoom n).run E.P w = .ok () w := by
        intro n w
        unfold askRoom
        split
        · rfl
        · rfl
      have hzc : (Builtin.zeroCells ti.zero.cells n).toList = (List.replicate n z).flatMap enc := by
        rw [zeroCells_repL _ _ (by rw [hzl]; have := he.pos; exact Nat.ne_of_gt (Nat.mul_pos h0 this)), hz, flat_replicate]
      refine ⟨.slice (some ⟨w.heap.size, 0, none⟩) n nc, _, w', ?_, ⟨w.heap.size, nc, rfl, rfl⟩, hmod.add (h := one w.heap.size (.cells ((Builtin.zeroCells ti.zero.cells n).toList ++ tl).toArray e (0, 0))) (fun m hm' => ?_) (.inr ⟨w.heap.size, [], tl, rfl, by rw [hzc]; simp, ?_, by simp; exact hnc.1, hnc.2⟩) (fun m hm' => one_ne _ (Nat.ne_of_lt hm')) (Sub.one ?_), ⟨rfl, rfl, rfl, by simp [w', w1], by simp [w', w1]⟩⟩
      · have hmax : ¬ (IntKind.i64.max < (n : Int)) := by simp [IntKind.max, IntKind.bits, IntKind.signed]; omega
        have hfit' : ¬ (281474976710656 < Builtin.nextslicecap n 0 * inf.bytes) := by rw [hinfb]; omega
        have hbig : ¬ (281474976710656 < (n : Int) * (inf.bytes : Int)) := by rw [hinfb]; omega
        have hwr : IntKind.i64.wrap (n : Int) = n := (wrap_i64 (n := (n : Int)) (by omega) (by omega)).symm
        have hforced : (Question.appendCap n 0 e).forced = false := rfl
        have hne : ¬ (n * k = 0) := by have := he.pos; exact Nat.ne_of_gt (Nat.mul_pos h0 this)
        simp only [execOp, ho, Sem.run_bind, resolve, invoke, builtin]
        simp [ev_sound hf hx, ev_sound hf hy, SV.val, Builtin.append_, run_underlying' hd, run_underlying' hd', hsz, hinf, hzr, hroomE, asInt, asIntOf, hwr, hbig, Builtin.firstCells, hmax, hfit', hforced, newRow, newObj, Sem.run, hne]
        rw [if_neg (by omega), if_neg (by omega), if_neg (by omega)]
        show Result.ok _ _ = Result.ok _ _
        congr 1
        simp only [World.alloc, w', w1, tl, nc, t, q, World.drew]
        congr 3
        apply Array.toList_inj.1
        simp
      · simp [w', w1, Array.getElem?_push, Nat.ne_of_lt hm']
      · simp only [tl, zeroCells_toList_len]
        rw [← hzl]; simp
      · simp [w'])
    (fun v Rs' ⟨b, c, h1, h2⟩ => by subst h1 h2; exact hK b c)
end

/-! ### a map that is only read -/
theorem Mod.old {w0 w : World} {Rs : List Res} (hm : Mod [heapOf w0] Rs w) : ∀ n, n < w0.heap.size → w.heap[n]? = w0.heap[n]? := fun n hn => by
  have := hm.sub (heapOf w0) (by simp) n (w0.heap[n]) (by simp [heapOf, hn])
  rw [this]; simp [hn]
section
variable {κ ν : Type} [DecidableEq κ] {E : Env} {l : L} {Rs : List Res} {o : Oper} {K : L → List Res → Prop} {kE : κ → Value} {vE : ν → Value}
def MpAt (kE : κ → Value) (vE : ν → Value) (w : World) (b : Nat) (al : List (κ × ν)) : Prop := ∃ es clock, w.heap[b]? = some (.map (es.map (entV kE vE)).toArray clock) ∧ es.map (·.1) = al ∧ EntOk es clock
theorem MpAt.of_mod {hfs : List PH} {w : World} {i b : Nat} {al : List (κ × ν)} (hm : Mod hfs Rs w) (hi : Rs[i]? = some (mpR kE vE b al)) : MpAt kE vE w b al := hm.mp_at hi
theorem MpAt.old {w0 w : World} {b : Nat} {al : List (κ × ν)} (h : MpAt kE vE w0 b al) (hk : ∀ n, n < w0.heap.size → w.heap[n]? = w0.heap[n]?) : MpAt kE vE w b al := by
  obtain ⟨es, clock, h1, h2⟩ := h
  exact ⟨es, clock, by rw [hk b (Array.getElem?_eq_some_iff.1 h1).1]; exact h1, h2⟩
theorem OpTo_lookupF (ht : TabOk E.P E.tab) {T kt et : TypeId} {x ix : Operand} {ok : Bool} {b : Nat} {al : List (κ × ν)} {ti : TyI} {s : SV} (k : κ) (r : Option ν) (hr : aget k al = r) (ho : o.op = .lookup T x ix ok) (hx : ev l x = some (.v (.map (some b)))) (hix : ev l ix = some s) (hs : s.val = kE k)
    (hT : kindIs E.tab T = some (.map kt et)) (hk : KeyOk E.P kt kE) (hti : tlook E.tab et = some ti) (hmp : ∀ w, Mod E.hfs Rs w → Oth E.w0 w → MpAt kE vE w b al)
    (hK : setd E.N o.dst (.v (mapAns ok ti.zero vE r)) l fun l' => K l' Rs) : OpTo E l Rs o K := by
  subst hr
  exact OpTo_run (Qo := fun v Rs' => v = mapAns ok ti.zero vE (aget k al) ∧ Rs' = Rs)
    (fun a w hf hm hio => by
      obtain ⟨es, clock, h1, h2, h3⟩ := hmp w hm hio
      obtain ⟨d, hd, hsame, hkey⟩ := hk.desc
      have hfind := MapKept.run_findKey (P := E.P) (w := w) hd (findNow_mfind (vE := vE) hsame k es 0)
      have hz := (ht _ _ hti).run_zero (w := w)
      have hu := run_underlying' (w := w) (kind_map ht hT)
      refine ⟨_, Rs, w, ?_, ⟨rfl, rfl⟩, hm, Oth.refl w⟩
      have hlook : (Instr.lookup T (.map (some b)) (kE k) ok).run E.P w = .ok (mapAns ok ti.zero vE (aget k al)) w := by
        subst h2
        rcases mfind_spec k es 0 with ⟨m1, m2⟩ | ⟨j, v, m1, m2, _⟩
        · rw [m1] at hfind
          have : aget k (es.map (·.1)) = none := aget_none.2 m2
          cases ok <;> simp [Instr.lookup, hu, MapKept.run_getObj_map h1, MapKept.run_checkKey hd (hkey k), hfind, hz, this, mapAns]
        · rw [m1] at hfind
          cases ok <;> simp [Instr.lookup, hu, MapKept.run_getObj_map h1, MapKept.run_checkKey hd (hkey k), hfind, m2, mapAns]
      have hs' : s.val = kE k := hs
      simp only [execOp, ho, ev_sound hf hx, ev_sound hf hix, hs', Sem.run_bind]
      rw [show (SV.v (Value.map (some b))).val = .map (some b) from rfl, hlook]
      rfl)
    (fun u Rs' ⟨h1, h2⟩ => by subst h1 h2; exact hK)
end

/-- Two new variables, in either order. -/
theorem Go_forkV {E : Env} {ops : Array Oper} {M : List Nat} {LBR : List Res} {LX : World → Prop} {listed : Array Bool} {p : List (Nat × Bool)} {k : List KI} {l : L} {Rs : List Res} (i j : Nat) (p1 p2 : List (Nat × Bool)) {oi oj : Oper}
    (hr : (Region.ready .any ops listed == [i, j]) = true) (n1 : Nat.beq (p1.length + 1) p.length = true) (n2 : Nat.beq (p2.length + 1) p.length = true) (c1 : chk ops M (listed.setIfInBounds i true) p1 = true) (c2 : chk ops M (listed.setIfInBounds j true) p2 = true)
    (hoi : nth ops.toList i = some oi) (hoj : nth ops.toList j = some oj) (gi : wantB ops.toList l oi = true) (gj : wantB ops.toList l oj = true) (sR : ∀ R w, Mod E.hfs (R :: Rs) w → Oth E.w0 w → LBof LBR LX w) (ht : TabOk E.P E.tab)
    (hi : vcDo E.tab E.N E.w0.heap.size l Rs oi (fun l' Rs' => (∃ R, Rs' = R :: Rs) ∧ Go E (.any ops M LBR LX (listed.setIfInBounds i true) p1 :: k) l' Rs') False) (hj : vcDo E.tab E.N E.w0.heap.size l Rs oj (fun l' Rs' => (∃ R, Rs' = R :: Rs) ∧ Go E (.any ops M LBR LX (listed.setIfInBounds j true) p2 :: k) l' Rs') False) :
    Go E (.any ops M LBR LX listed p :: k) l Rs :=
  Go_fork (Ki := fun l' Rs' => (∃ R, Rs' = R :: Rs) ∧ Go E (.any ops M LBR LX (listed.setIfInBounds i true) p1 :: k) l' Rs') (Kj := fun l' Rs' => (∃ R, Rs' = R :: Rs) ∧ Go E (.any ops M LBR LX (listed.setIfInBounds j true) p2 :: k) l' Rs') i j p1 p2 hr n1 n2 c1 c2 hoi hoj gi gj
    (.inr fun l' Rs' ⟨⟨R, h⟩, _⟩ w hm hio => sR R w (h ▸ hm) hio) (.inr fun l' Rs' ⟨⟨R, h⟩, _⟩ w hm hio => sR R w (h ▸ hm) hio) (OpTo_do ht hi) (OpTo_do ht hj) (fun _ _ h => h.2) (fun _ _ h => h.2)
end Go.RX

/- RX, part 21: an argument that is a slice of structs. -/
set_option autoImplicit false
set_option linter.unusedVariables false
set_option linter.unusedSimpArgs false
namespace Go.RX
open Go Go.RowKit Go.ChangeShapes Go.WideShapes

section
variable {H : Type} {enc : TypeId × Value → H} {P : Program} {w : World} {base : Nat} {sp : Nat → Bool} {held : Bool}

theorem rd_struct {tab : Tab} (ht : TabOk P tab) {T : TypeId} {fs : List (Nat × TypeId)} (hk : kindIs tab T = some (.struct fs)) {fuel : Nat} {cs : List Value} {x : DataW H × List MemPlace} (h : DataW.trod enc P w base sp held fuel T cs = some x) :
    cs.length = P.cellsOf T ∧ ∀ i off t, nth fs i = some (off, t) → ∃ y m, DataW.trod enc P w base sp held m t ((cs.drop off).take (P.cellsOf t)) = some y := by
  obtain ⟨d, hd, fields, rfl, hfs⟩ := kind_spec ht hk
  obtain ⟨xs, n, _, rfl, hl, hlen, hf⟩ := DataW.trod_struct hd h
  refine ⟨hl, fun i off t hi => ?_⟩
  rw [nth_eq, ← hfs, List.getElem?_map] at hi
  obtain ⟨fl, h1, h2⟩ := Option.map_eq_some_iff.1 hi
  simp only [Prod.mk.injEq] at h2
  obtain ⟨h3, h4⟩ := h2
  subst h3 h4
  have h1' : fields[i]? = some fl := by simpa using h1
  have := hf i fl h1'
  have hi' : i < xs.length := by rw [hlen]; exact (Array.getElem?_eq_some_iff.1 h1').1
  rw [List.getElem?_eq_getElem hi'] at this
  exact ⟨_, n, this⟩
end
end Go.RX
