/- RX, part 9: entering a function; calls; loops; what is read and written elsewhere. -/
import Derived.Test.YthpcahgdobnljaaGreatRxMain
import Derived.KernelRfl
set_option autoImplicit false
set_option linter.unusedVariables false
set_option linter.unusedSimpArgs false
namespace Go.RX
open Go Go.RowKit

/-! ### entering -/
def argL : List Value → Nat → L
  | [], _ => []
  | v :: r, i => (i, .v v) :: argL r (i + 1)

theorem look_argL : ∀ (vs : List Value) (i t : Nat) (s : SV), look (argL vs i) t = some s → i ≤ t ∧ vs[t - i]? = some s.val
  | [], _, _, _, h => by cases h
  | v :: r, i, t, s, h => by
    simp only [argL, look] at h
    split at h
    · rename_i hb
      have := Nat.eq_of_beq_eq_true hb
      subst this
      cases h
      simp [SV.val]
    · obtain ⟨h1, h2⟩ := look_argL r (i + 1) t s h
      refine ⟨by omega, ?_⟩
      rw [show t - i = (t - (i + 1)) + 1 from by omega]
      simpa using h2

theorem enter {P : Program} {tab : Tab} {N : Nat} {res : List ResultVar} {post : Value → List Res → Prop} {f : FuncId} {fn : Func} {c : Code} (hf : P.funcs[f]? = some fn) (hb : fn.body = some c) (hN : fn.ntmps = N)
    (hres : fn.results.toList = res) {args : List Value} (hlen : Nat.ble args.length N = true) {w0 : World} {hfs : List PH} {Rs : List Res} (hm : Mod hfs Rs w0)
    (hgo : Go { P := P, tab := tab, N := N, res := res, hfs := hfs, w0 := w0, post := post } [.code c] (argL args 0) Rs) :
    Calls P f args.toArray w0 fun e w' => ∃ v Rs', e = .returned v ∧ post v Rs' ∧ Mod hfs Rs' w' ∧ Oth w0 w' := by
  refine calls_of_wp hf hb ?_
  have hle := Nat.le_of_ble_eq_true hlen
  have hfr : Fr N { tmps := args.toArray ++ Array.replicate (fn.ntmps - args.toArray.size) undef, defers := [] } (argL args 0) := by
    refine ⟨rfl, by simp [hN]; omega, fun t s e => ?_⟩
    obtain ⟨_, h2⟩ := look_argL args 0 t s e
    have hlt : t < args.length := by
      have := (List.getElem?_eq_some_iff.1 h2).1
      simpa using this
    rw [Array.getElem?_append_left (by simpa using hlt)]
    simpa using h2
  have h := hgo _ w0 hfr hm (Oth.refl w0)
  refine wp_mono h fun e a w hq => ?_
  cases e with
  | normal =>
    obtain ⟨h1, h2⟩ := hq
    obtain ⟨v, h3, h4⟩ := h2 fn hres
    exact ⟨h1, v, h3, h4⟩
  | ret =>
    obtain ⟨h1, h2⟩ := hq
    obtain ⟨v, h3, h4⟩ := h2 fn hres
    exact ⟨h1, v, h3, h4⟩
  | _ => exact hq.elim

/-! ### weakening -/
def subL : L → L → Prop
  | [], _ => True
  | (t, s) :: r, l => match look l t with
    | some s0 => s0.val = s.val ∧ subL r l
    | none => False

theorem subL_sound : ∀ {l' l : L} {N : Nat} {a : Act}, subL l' l → Fr N a l → Fr N a l'
  | [], l, N, a, _, hf => ⟨hf.defers, hf.size, fun t s e => by cases e⟩
  | (t, s) :: r, l, N, a, h, hf => by
    simp only [subL] at h
    split at h
    · rename_i s0 hs
      have hr := subL_sound h.2 hf
      refine ⟨hf.defers, hf.size, fun t' s' e => ?_⟩
      simp only [look] at e
      split at e
      · rename_i hb
        have := Nat.eq_of_beq_eq_true hb
        subst this
        cases e
        rw [← h.1]
        exact hf.at_ t s0 hs
      · exact hr.at_ t' s' e
    · exact h.elim

theorem Go_mono {E : Env} {k : List KI} {l l' : L} {Rs Rs' : List Res} (hl : subL l' l) (hR : ∀ w, Mod E.hfs Rs w → Mod E.hfs Rs' w) (h : Go E k l' Rs') : Go E k l Rs :=
  fun a w hf hm hio => h a w (subL_sound hl hf) (hR w hm) hio

/-- Facts of the world, for the computation to lean on. -/
theorem Go_with {E : Env} {k : List KI} {l : L} {Rs : List Res} (p : Prop) (hp : ∀ w, Mod E.hfs Rs w → Oth E.w0 w → p) (h : p → Go E k l Rs) : Go E k l Rs :=
  fun a w hf hm hio => h (hp w hm hio) a w hf hm hio

/-! ### loops -/
theorem Go_loop {E : Env} {k : List KI} {l : L} {Rs : List Res} {c : Code} {σ : Type} (Lf : σ → L) (Rf : σ → List Res) (Inv : σ → Prop) (μ : σ → Nat) (s0 : σ) (hI : Inv s0) (hl : subL (Lf s0) l)
    (hR : ∀ w, Mod E.hfs Rs w → Mod E.hfs (Rf s0) w)
    (round : ∀ s, Inv s → Go E (.code c :: .fin (fun a w => ∃ s', Inv s' ∧ μ s' < μ s ∧ Fr E.N a (Lf s') ∧ Mod E.hfs (Rf s') w ∧ Oth E.w0 w) :: k) (Lf s) (Rf s)) : Go E (.code (.loop c) :: k) l Rs := by
  intro a w hf hm hio
  show (Code.loop c).wp E.P _ a w
  -- the state that the frame is at, chosen at the round's begin
  let I : Act → World → Prop := fun a w => ∃ s, Inv s ∧ Fr E.N a (Lf s) ∧ Mod E.hfs (Rf s) w ∧ Oth E.w0 w
  intro b kk cs
  have key : ∀ n (s : σ) a w, μ s = n → Inv s → Fr E.N a (Lf s) → Mod E.hfs (Rf s) w → Oth E.w0 w →
      ∃ e a' w', Kpost E.P E.Q k e a' w' ∧ Arrives E.P (lone (b.at a (.code c :: .inLoop c :: kk)) cs w) b kk cs e a' w' := by
    intro n
    induction n using Nat.strongRecOn with
    | _ n ih =>
      intro s a w hn hI hf hm hio
      have hr := round s hI a w hf hm hio
      obtain ⟨e, a₁, w₁, hq, harr⟩ := hr b (.inLoop c :: kk) cs
      cases e with
      | normal =>
        obtain ⟨s', h1, h2, h3, h4, h5⟩ := hq
        obtain ⟨e₂, a₂, w₂, hq₂, harr₂⟩ := ih (μ s') (hn ▸ h2) s' a₁ w₁ rfl h1 h3 h4 h5
        exact ⟨e₂, a₂, w₂, hq₂, .of_steps (Steps.trans harr (.one step_inLoop)) harr₂⟩
      | exit id => exact ⟨_, a₁, w₁, hq, .pass (x := .inLoop c) rfl (fun _ _ => .inl (by simp)) harr⟩
      | goto l => exact ⟨_, a₁, w₁, hq, .pass (x := .inLoop c) rfl (fun _ _ => .inl (by simp)) harr⟩
      | ret => exact ⟨_, a₁, w₁, hq, .pass (x := .inLoop c) rfl (fun _ _ => .inl (by simp)) harr⟩
      | panic ch => exact ⟨_, a₁, w₁, hq, .pass (x := .inLoop c) rfl (fun _ _ => .inl (by simp)) harr⟩
      | outgrown => exact ⟨_, a₁, w₁, hq, .pass (x := .inLoop c) rfl (fun _ _ => .inl (by simp)) harr⟩
  obtain ⟨e, a', w', hq, harr⟩ := key _ s0 a w rfl hI (subL_sound hl hf) (hR w hm) hio
  exact ⟨e, a', w', hq, .of_steps (.one step_loop) harr⟩

theorem Go_fin {E : Env} {k : List KI} {l : L} {Rs : List Res} {σ : Type} {Lf : σ → L} {Rf : σ → List Res} {Inv : σ → Prop} {μ : σ → Nat} {m : Nat} (s' : σ) (h1 : Inv s') (h2 : μ s' < m) (h3 : subL (Lf s') l)
    (h4 : ∀ w, Mod E.hfs Rs w → Mod E.hfs (Rf s') w) : Go E (.fin (fun a w => ∃ s', Inv s' ∧ μ s' < m ∧ Fr E.N a (Lf s') ∧ Mod E.hfs (Rf s') w ∧ Oth E.w0 w) :: k) l Rs :=
  fun _ w hf hm hio => ⟨s', h1, h2, subL_sound h3 hf, h4 w hm, hio⟩

/-! ### a statement whose order is open -/
theorem Holds.of_mod {hfs : List PH} {w : World} : ∀ {LBR : List Res} {Rs : List Res}, Mod hfs Rs w → (∀ R ∈ LBR, R ∈ Rs) → Holds LBR w
  | [], _, _, _ => trivial
  | .blk b T cs :: r, Rs, hm, h => by
    obtain ⟨i, hi⟩ := List.mem_iff_getElem?.1 (h (.blk b T cs) (by simp))
    exact ⟨hm.blk_at hi, Holds.of_mod (LBR := r) hm fun R hR => h R (by simp [hR])⟩
  | .hp _ :: r, Rs, hm, h => Holds.of_mod (LBR := r) hm fun R hR => h R (by simp [hR])

/-- The frame's memory stands. -/
def FrmX (hfs : List PH) : World → Prop := fun w => ∀ h ∈ hfs, Sub h w
theorem FrmX.stable (hfs : List PH) : Stable (FrmX hfs) := fun w w' hk h g hg n o e => by rw [hk n ((h g hg).lt e)]; exact h g hg n o e
theorem FrmX.of_mod {hfs : List PH} {Rs : List Res} {w : World} (hm : Mod hfs Rs w) : FrmX hfs w := hm.sub

theorem Go_any {E : Env} (hmix : E.P.follows .mixedOrders = true) {id : Nat} {ops : Array Oper} {k : List KI} {l : L} {Rs : List Res} (M : List Nat) (plan : List (Nat × Bool)) (hp : Nat.beq plan.length ops.size = true)
    (hc : chk ops M (Array.replicate ops.size false) plan = true) (hs : Region.noSelect ops = true) (LBR : List Res) (LX : World → Prop) (hst : Stable LX) (hB : ∀ w, Mod E.hfs Rs w → Oth E.w0 w → Holds LBR w ∧ LX w)
    (h : Go E (.any ops M LBR LX (Array.replicate ops.size false) plan :: k) l Rs) : Go E (.code (.region id ops true) :: k) l Rs := by
  intro a w hf hm hio
  show (Code.region id ops true).wp E.P _ a w
  refine wp_region_any hmix (wpAny_of_X (M := M) (LB := LBof LBR LX) _ _ _ _ ?_)
  have hm' : Mod E.hfs Rs { w with drawn := w.drawn + 1 } := hm.keep fun _ _ => rfl
  have hio' : Oth E.w0 { w with drawn := w.drawn + 1 } := ⟨hio.os, hio.tape, hio.output, hio.size, Nat.le_succ_of_le hio.drawn⟩
  have := h a { w with drawn := w.drawn + 1 } hf hm' hio' hc hs hst (Closed.start _ _) fun _ => hB _ hm' hio'
  rwa [Nat.eq_of_beq_eq_true hp] at this

/-! ### one operation, by a law -/
def wantB (ops : List Oper) (l : L) (o : Oper) : Bool := match o.guard with
  | none => true
  | some (j, want) => match nth ops j with
    | some oj => match oj.dst with
      | some t => match look l t with
        | some .tt => want
        | some .ff => !want
        | _ => false
      | none => false
    | none => false

theorem wantB_sound {ops : Array Oper} {l : L} {o : Oper} {N : Nat} {a : Act} (hf : Fr N a l) (h : wantB ops.toList l o = true) : Region.wanted o (yielded ops a.tmps) = true := by
  unfold wantB at h
  split at h
  · rename_i hg; simp [Region.wanted, hg]
  · rename_i j want hg
    split at h <;> try (cases h; done)
    rename_i oj hj
    split at h <;> try (cases h; done)
    rename_i t ht
    split at h <;> try (cases h; done)
    · rename_i hl; subst h; simp [Region.wanted, hg, yielded_of hf hj ht hl rfl]
    · rename_i hl
      cases want
      · simp [Region.wanted, hg, yielded_of hf hj ht hl rfl]
      · cases h

/-- What an operation comes to, from a frame and resources. -/
def OpTo (E : Env) (l : L) (Rs : List Res) (o : Oper) (K : L → List Res → Prop) : Prop :=
  ∀ a w, Fr E.N a l → Mod E.hfs Rs w → Oth E.w0 w → o.wp E.P a w (fun a' w' => ∃ l' Rs', K l' Rs' ∧ Fr E.N a' l' ∧ Mod E.hfs Rs' w' ∧ Oth E.w0 w') (fun _ _ _ => False)

theorem Oper.wp_to {P : Program} {o : Oper} {a : Act} {w : World} {J J' : Act → World → Prop} {Q : Exit → Act → World → Prop} (h : o.wp P a w J (fun _ _ _ => False)) (hJ : ∀ a w, J a w → J' a w) : o.wp P a w J' Q := by
  unfold Oper.wp at *
  generalize (execOp a.eval o).run P w = r at *
  cases r with
  | ok n w' =>
    cases n <;> simp only [Oper.upon] at h ⊢ <;>
      first
        | exact hJ _ _ h
        | exact Calls.mono h (fun e w'' he => by cases e <;> first | exact hJ _ _ he | exact he.elim | (obtain ⟨_, _, he⟩ := he; exact he.elim))
        | exact Rows.mono h (fun _ _ he => hJ _ _ he)
        | exact h.elim
  | halt x w' => cases x <;> simp only [Oper.upon] at h ⊢ <;> exact h.elim

theorem Go_ops {E : Env} {ops : Array Oper} {o : Oper} {rest : List Oper} {k : List KI} {l : L} {Rs : List Res} (hg : wantB ops.toList l o = true) (h : OpTo E l Rs o fun l' Rs' => Go E (.ops ops rest :: k) l' Rs') :
    Go E (.ops ops (o :: rest) :: k) l Rs := by
  intro a w hf hm hio
  show wpList E.P ops _ (o :: rest) a w
  unfold wpList
  rw [if_pos (wantB_sound hf hg)]
  exact .inl (Oper.wp_to (h a w hf hm hio) fun a' w' ⟨l', Rs', h1, h2, h3, h4⟩ => h1 a' w' h2 h3 h4)

theorem Go_alone {E : Env} {ops : Array Oper} {M : List Nat} {LBR : List Res} {LX : World → Prop} {listed : Array Bool} {i : Nat} {r : List (Nat × Bool)} {o : Oper} {k : List KI} {l : L} {Rs : List Res} {K : L → List Res → Prop}
    (ho : nth ops.toList i = some o) (hg : wantB ops.toList l o = true) (hS : memb i M = true ∨ ∀ l' Rs', K l' Rs' → ∀ w, Mod E.hfs Rs' w → Oth E.w0 w → LBof LBR LX w) (h : OpTo E l Rs o K)
    (hK : ∀ l' Rs', K l' Rs' → Go E (.any ops M LBR LX (listed.setIfInBounds i true) r :: k) l' Rs') : Go E (.any ops M LBR LX listed ((i, true) :: r) :: k) l Rs := by
  intro a w hf hm hio hc hs hst hcl hS0
  have ho' : ops[i]? = some o := by rw [nth_eq] at ho; simpa using ho
  refine any_alone ho' hc hs hst hcl fun hr => ?_
  unfold wpOp
  simp only [ho', wantB_sound hf hg, if_true]
  refine .inl (Oper.wp_to (h a w hf hm hio) fun a' w' ⟨l', Rs', h1, h2, h3, h4⟩ => ⟨?_, hK l' Rs' h1 a' w' h2 h3 h4⟩)
  rcases hS with hS | hS
  · exact SX.of_mem hr (memb_spec hS)
  · exact fun _ => hS l' Rs' h1 w' h3 h4

theorem Go_aloneM {E : Env} {ops : Array Oper} {M : List Nat} {LBR : List Res} {LX : World → Prop} {listed : Array Bool} {i : Nat} {r : List (Nat × Bool)} {o : Oper} {k : List KI} {l : L} {Rs : List Res}
    (ho : nth ops.toList i = some o) (hg : wantB ops.toList l o = true) (hM : memb i M = true) (h : OpTo E l Rs o fun l' Rs' => Go E (.any ops M LBR LX (listed.setIfInBounds i true) r :: k) l' Rs') :
    Go E (.any ops M LBR LX listed ((i, true) :: r) :: k) l Rs := Go_alone ho hg (.inl hM) h fun _ _ h => h

/-- Memory that is read first, known by the condition. -/
theorem Go_first {E : Env} {ops : Array Oper} {M : List Nat} {LBR : List Res} {LX : World → Prop} {listed : Array Bool} {i : Nat} {r : List (Nat × Bool)} {o : Oper} {k : List KI} {l : L} {Rs : List Res} {T : TypeId} {x : Operand} {p : Addr} {v : Value}
    (ho : nth ops.toList i = some o) (hop : o.op = .load T x) (hg : wantB ops.toList l o = true) (hx : ev l x = some (.v (.pointer (some p)))) (hl : ∀ w, Holds LBR w → LX w → (loadVar T p).run E.P w = .ok v w)
    (hK : setd E.N o.dst (.v v) l fun l' => Go E (.any ops M LBR LX (listed.setIfInBounds i true) r :: k) l' Rs) : Go E (.any ops M LBR LX listed ((i, false) :: r) :: k) l Rs := by
  intro a w hf hm hio hc hs hst hcl hS0
  have ho' : ops[i]? = some o := by rw [nth_eq] at ho; simpa using ho
  obtain ⟨l2, m1, m2⟩ := setd_sound hK hf
  refine any_first ho' hc hs hst hcl hS0 (.inr ⟨by rw [hop]; rfl, .inl ⟨wantB_sound hf hg, fun w' hw' => ?_⟩⟩) (m1 _ w m2 hm hio)
  simp only [execOp, hop, ev_sound hf hx, SV.val, Instr.loadAt, Instr.sureAddr, Sem.run_bind, Sem.run_pure, Result.andThen_ok, hl w' hw'.1 hw'.2]

/-- An operation that leaves a value. -/
theorem OpTo_run {E : Env} {l : L} {Rs : List Res} {o : Oper} {K : L → List Res → Prop} {Qo : Value → List Res → Prop}
    (h : ∀ a w, Fr E.N a l → Mod E.hfs Rs w → Oth E.w0 w → ∃ v Rs' w', (execOp a.eval o).run E.P w = .ok (.value v) w' ∧ Qo v Rs' ∧ Mod E.hfs Rs' w' ∧ Oth w w') (hK : ∀ v Rs', Qo v Rs' → setd E.N o.dst (.v v) l fun l' => K l' Rs') : OpTo E l Rs o K := by
  intro a w hf hm hio
  obtain ⟨v, Rs', w', h1, h2, h3, h4⟩ := h a w hf hm hio
  obtain ⟨l', k1, k2⟩ := setd_sound (hK v Rs' h2) hf
  unfold Oper.wp
  rw [h1]
  exact ⟨l', Rs', k1, k2, h3, hio.trans h4⟩

/-- One that leaves none. -/
theorem OpTo_skip {E : Env} {l : L} {Rs : List Res} {o : Oper} {K : L → List Res → Prop} {Qo : List Res → Prop} (hd : o.dst = none)
    (h : ∀ a w, Fr E.N a l → Mod E.hfs Rs w → Oth E.w0 w → ∃ Rs' w', (execOp a.eval o).run E.P w = .ok .skip w' ∧ Qo Rs' ∧ Mod E.hfs Rs' w' ∧ Oth w w') (hK : ∀ Rs', Qo Rs' → K l Rs') : OpTo E l Rs o K := by
  intro a w hf hm hio
  obtain ⟨Rs', w', h1, h2, h3, h4⟩ := h a w hf hm hio
  unfold Oper.wp
  rw [h1]
  refine ⟨l, Rs', hK Rs' h2, ?_, h3, hio.trans h4⟩
  rw [hd]; exact hf

/-! ### calls -/
def callable (P : Program) (f : FuncId) : Bool := match P.funcs[f]? with
  | some fn => fn.name != "runtime.NumGoroutine" && fn.body.isSome
  | none => false

theorem run_callFunc {P : Program} {f : FuncId} (h : callable P f = true) (args : Array Value) (w : World) : (callFunc f args).run P w = .ok (.enter f args) w := by
  unfold callable at h
  split at h
  · rename_i fn hf
    simp only [Bool.and_eq_true, bne_iff_ne] at h
    have hb : fn.body ≠ none := by intro hx; rw [hx] at h; cases h.2
    simp [callFunc, program, Sem.run, hf, h.1, hb]
  · cases h

theorem OpTo_call {E : Env} {l : L} {Rs : List Res} {o : Oper} {c : Call} {x : Operand} {f : FuncId} {first cap : Array Value} {vs av : List Value} {K : L → List Res → Prop} {Qc : Value → List Res → Prop}
    (ho : o.op = .call c) (hc : c.callee = .value x) (hx : ev l x = some (.v (.func (.func f) first cap))) (hv : evs l c.args.toList = some vs) (has : first.toList ++ vs ++ cap.toList = av) (hf : callable E.P f = true)
    (hcall : ∀ w, Mod E.hfs Rs w → Oth E.w0 w → Calls E.P f av.toArray w fun e w' => ∃ v Rs', e = .returned v ∧ Qc v Rs' ∧ Mod E.hfs Rs' w' ∧ Oth w w')
    (hK : ∀ v Rs', Qc v Rs' → setd E.N o.dst (.v v) l fun l' => K l' Rs') : OpTo E l Rs o K := by
  intro a w hfr hm hio
  have hargs : c.args.map a.eval = vs.toArray := by
    apply Array.toList_inj.1
    simp [evs_sound hfr hv]
  have hrun : (execOp a.eval o).run E.P w = .ok (.enter f av.toArray) w := by
    have e1 : (first ++ vs.toArray ++ cap) = av.toArray := by
      apply Array.toList_inj.1
      simp [← has]
    simp only [execOp, ho, Sem.run_bind, resolve, hc, hargs, ev_sound hfr hx, SV.val, Deferred.ofValue, Sem.run_pure, Result.andThen_ok, invoke]
    rw [run_callFunc hf, e1]
  unfold Oper.wp
  rw [hrun]
  refine Calls.mono (hcall w hm hio) fun e w' he => ?_
  obtain ⟨v, Rs', rfl, h2, h3, h4⟩ := he
  obtain ⟨l', k1, k2⟩ := setd_sound (hK v Rs' h2) hfr
  exact ⟨l', Rs', k1, k2, h3, hio.trans h4⟩

/-- A call that only answers. -/
theorem OpTo_pcall {E : Env} {l : L} {Rs : List Res} {o : Oper} {c : Call} {x : Operand} {f : FuncId} {first cap : Array Value} {vs av : List Value} {K : L → List Res → Prop} {v : Value}
    (ho : o.op = .call c) (hc : c.callee = .value x) (hx : ev l x = some (.v (.func (.func f) first cap))) (hv : evs l c.args.toList = some vs) (has : first.toList ++ vs ++ cap.toList = av) (hf : callable E.P f = true)
    (hcall : ∀ w, Mod E.hfs Rs w → Oth E.w0 w → Calls E.P f av.toArray w fun e w' => e = .returned v ∧ BelowD w.heap.size w w')
    (hK : setd E.N o.dst (.v v) l fun l' => K l' Rs) : OpTo E l Rs o K :=
  OpTo_call (Qc := fun u Rs' => u = v ∧ Rs' = Rs) ho hc hx hv has hf
    (fun w hm hio => (hcall w hm hio).mono fun e w' ⟨h1, h2⟩ => ⟨v, Rs, h1, ⟨rfl, rfl⟩, hm.keep fun n hn => h2.block n hn, Oth.of_below h2⟩)
    (fun u Rs' ⟨h1, h2⟩ => by subst h1 h2; exact hK)

/-- A call that answers with new memory. -/
theorem OpTo_ncall {E : Env} {l : L} {Rs : List Res} {o : Oper} {c : Call} {x : Operand} {f : FuncId} {first cap : Array Value} {vs av : List Value} {K : L → List Res → Prop} {Qc : Value → List Res → Prop}
    (ho : o.op = .call c) (hc : c.callee = .value x) (hx : ev l x = some (.v (.func (.func f) first cap))) (hv : evs l c.args.toList = some vs) (has : first.toList ++ vs ++ cap.toList = av) (hf : callable E.P f = true)
    (hcall : ∀ w, Mod E.hfs Rs w → Oth E.w0 w → Calls E.P f av.toArray w fun e w' => ∃ v Rs', e = .returned v ∧ Qc v Rs' ∧ Mod [heapOf w] Rs' w' ∧ Oth w w')
    (hK : ∀ v Rs', Qc v Rs' → setd E.N o.dst (.v v) l fun l' => K l' (Rs' ++ Rs)) : OpTo E l Rs o K :=
  OpTo_call (Qc := fun u Rs2 => ∃ Rs', Qc u Rs' ∧ Rs2 = Rs' ++ Rs) ho hc hx hv has hf
    (fun w hm hio => (hcall w hm hio).mono fun e w' ⟨v, Rs', h1, h2, h3, h4⟩ => ⟨v, Rs' ++ Rs, h1, ⟨Rs', h2, rfl⟩, h3.beside hm, h4⟩)
    (fun u Rs2 ⟨Rs', h1, h2⟩ => by subst h2; exact hK u Rs' h1)

/-- A call that turns some resources. -/
theorem OpTo_mcall {E : Env} {l : L} {Rs : List Res} {o : Oper} {c : Call} {x : Operand} {f : FuncId} {first cap : Array Value} {vs av : List Value} {K : L → List Res → Prop} {Qc : Value → List Res → Prop} (Rp Rr : List Res) (hp : Rs.Perm (Rp ++ Rr))
    (ho : o.op = .call c) (hc : c.callee = .value x) (hx : ev l x = some (.v (.func (.func f) first cap))) (hv : evs l c.args.toList = some vs) (has : first.toList ++ vs ++ cap.toList = av) (hf : callable E.P f = true)
    (hcall : ∀ w hb, Mod E.hfs Rs w → Oth E.w0 w → (∀ a' w', Mod (hb ++ E.hfs) a' w' → Mod E.hfs (a' ++ Rr) w') → Mod (hb ++ E.hfs) Rp w → Calls E.P f av.toArray w fun e w' => ∃ v Rs', e = .returned v ∧ Qc v Rs' ∧ Mod (hb ++ E.hfs) Rs' w' ∧ Oth w w')
    (hK : ∀ v Rs', Qc v Rs' → setd E.N o.dst (.v v) l fun l' => K l' (Rs' ++ Rr)) : OpTo E l Rs o K :=
  OpTo_call (Qc := fun u Rs2 => ∃ Rs', Qc u Rs' ∧ Rs2 = Rs' ++ Rr) ho hc hx hv has hf
    (fun w hm hio => by
      obtain ⟨hb, h1, h2⟩ := (hm.permRs hp).split
      exact (hcall w hb hm hio (fun a' w' => h2 a' w') h1).mono fun e w' ⟨v, Rs', k1, k2, k3, k4⟩ => ⟨v, Rs' ++ Rr, k1, ⟨Rs', k2, rfl⟩, h2 Rs' w' k3, k4⟩)
    (fun u Rs2 ⟨Rs', h1, h2⟩ => by subst h2; exact hK u Rs' h1)

/-! ### reading what is known of the world -/
theorem OpTo_load {E : Env} {l : L} {Rs : List Res} {o : Oper} {K : L → List Res → Prop} {T : TypeId} {x : Operand} {p : Addr} {v : Value} (ho : o.op = .load T x) (hx : ev l x = some (.v (.pointer (some p))))
    (hl : ∀ w, Mod E.hfs Rs w → Oth E.w0 w → (loadVar T p).run E.P w = .ok v w) (hK : setd E.N o.dst (.v v) l fun l' => K l' Rs) : OpTo E l Rs o K :=
  OpTo_run (Qo := fun u Rs' => u = v ∧ Rs' = Rs)
    (fun a w hf hm hio => ⟨v, Rs, w, by
      simp only [execOp, ho, ev_sound hf hx, SV.val, Instr.loadAt, Instr.sureAddr, Sem.run_bind, Sem.run_pure, Result.andThen_ok, hl w hm hio], ⟨rfl, rfl⟩, hm, Oth.refl w⟩)
    (fun u Rs' ⟨h1, h2⟩ => by subst h1 h2; exact hK)

end Go.RX
