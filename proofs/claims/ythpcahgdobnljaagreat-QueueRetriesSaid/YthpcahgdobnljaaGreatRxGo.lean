/- RX, part 7: a stack of code, a frame by slots, resources: what is left to show, by computation ('VC'), and the laws for what computation does not pass (calls, loops, ..). -/
import Derived.Test.YthpcahgdobnljaaGreatRxAny
set_option autoImplicit false
set_option linter.unusedVariables false
set_option linter.unusedSimpArgs false
namespace Go.RX
open Go

/-- What is left to run. -/
inductive KI where
  | code (c : Code)
  | ops (ops : Array Oper) (rest : List Oper)
  | blk (id : Nat)
  | fin (J : Act → World → Prop)
  | any (ops : Array Oper) (M : List Nat) (LBR : List Res) (LX : World → Prop) (listed : Array Bool) (plan : List (Nat × Bool))

/-- Blocks of known cells stand in a world. -/
def Holds : List Res → World → Prop
  | [], _ => True
  | .blk b T cs :: r, w => w.heap[b]? = some (.cells cs.toArray T (0, 0)) ∧ Holds r w
  | .hp _ :: r, w => Holds r w

def LBof (LBR : List Res) (LX : World → Prop) : World → Prop := fun w => Holds LBR w ∧ LX w

/-- Operations that touch no memory that is written. -/
def eager : Op → Bool
  | .move _ | .assign _ | .pick .. | .nilCheck _ | .unOp .. | .binOp .. | .fieldAddr .. | .field .. | .indexAddr .. | .index .. | .extract .. | .build .. | .convert .. | .makeFunc .. | .slice .. => true
  | .call c => match c.callee with
    | .builtin .len | .builtin .min | .builtin .max => true
    | _ => false
  | _ => false

def aheadF (ops : Array Oper) : Nat → Nat → Nat → Bool
  | 0, _, _ => false
  | n + 1, m, i => match ops[m]? with
    | some o => o.after.any fun e => Region.binds .any e && (e.on == i || aheadF ops n e.on i)
    | none => false
def aheadB (ops : Array Oper) (M : List Nat) (i : Nat) : Bool := M.all fun m => aheadF ops ops.size m i

theorem aheadF_sound {ops : Array Oper} : ∀ (n m i : Nat), aheadF ops n m i = true → AheadT ops m i
  | 0, _, _, h => by cases h
  | n + 1, m, i, h => by
    simp only [aheadF] at h
    split at h
    · rename_i o ho
      obtain ⟨e, he, hb⟩ := Array.any_eq_true'.1 h
      simp only [Bool.and_eq_true, Bool.or_eq_true, beq_iff_eq] at hb
      rcases hb.2 with h2 | h2
      · exact .edge ho he hb.1 h2
      · exact .way ho he hb.1 (aheadF_sound n _ i h2)
    · cases h

def isLoad : Op → Bool
  | .load .. => true
  | _ => false

def unlB (M : List Nat) (listed : Array Bool) : Bool := M.all fun m => !listed.getD m true

/-- May the operations be taken in this order, for all orders? Each beside its number: is it alone when it comes up (else: it may be taken first). -/
def chk (ops : Array Oper) (M : List Nat) : Array Bool → List (Nat × Bool) → Bool
  | listed, [] => (Region.ready .any ops listed).isEmpty
  | listed, (i, alone) :: r => match ops[i]? with
    | some o => (match alone with
        | true => Region.ready .any ops listed == [i]
        | false => (Region.ready .any ops listed).contains i && Region.free .any ops listed i && !M.contains i && (eager o.op || (isLoad o.op && aheadB ops M i && unlB M listed))) && chk ops M (listed.setIfInBounds i true) r
    | none => true

def Stable (LX : World → Prop) : Prop := ∀ w w', (∀ n, n < w.heap.size → w'.heap[n]? = w.heap[n]?) → LX w → LX w'

def Kpost (P : Program) (Q : Exit → Act → World → Prop) : List KI → Exit → Act → World → Prop
  | [] => Q
  | .code c :: k => Exit.then (c.wp P (Kpost P Q k)) (Kpost P Q k)
  | .ops ops rest :: k => Exit.then (wpList P ops (Kpost P Q k) rest) (Kpost P Q k)
  | .blk id :: k => Exit.inBlock id (Kpost P Q k)
  | .fin J :: k => Exit.then J (Kpost P Q k)
  | .any ops M LBR LX listed plan :: k => Exit.then (fun a w => chk ops M listed plan = true → Region.noSelect ops = true → Stable LX → Closed ops listed → SX M (LBof LBR LX) listed w → wpAnyX P ops (Kpost P Q k) M (LBof LBR LX) plan.length listed a w) (Kpost P Q k)

structure Env where
  P : Program
  tab : Tab
  N : Nat
  res : List ResultVar
  hfs : List PH
  w0 : World
  post : Value → List Res → Prop

def Env.R (E : Env) : Ending → World → Prop := fun e w' => ∃ v Rs, e = .returned v ∧ E.post v Rs ∧ Mod E.hfs Rs w' ∧ Oth E.w0 w'

/-- What the body must come to. -/
def Env.Q (E : Env) : Exit → Act → World → Prop
  | .normal, a, w | .ret, a, w => a.defers = [] ∧ ∀ fn : Func, fn.results.toList = E.res → ∃ v, (results fn a.tmps).run E.P w = .ok v w ∧ E.R (.returned v) w
  | _, _, _ => False

def Go (E : Env) (k : List KI) (l : L) (Rs : List Res) : Prop :=
  ∀ a w, Fr E.N a l → Mod E.hfs Rs w → Oth E.w0 w → Kpost E.P E.Q k .normal a w

theorem Kpost_ret (P : Program) (Q : Exit → Act → World → Prop) : ∀ (k : List KI) (a : Act) (w : World), Kpost P Q k .ret a w = Q .ret a w
  | [], _, _ => rfl
  | .code _ :: k, a, w => Kpost_ret P Q k a w
  | .ops .. :: k, a, w => Kpost_ret P Q k a w
  | .blk _ :: k, a, w => Kpost_ret P Q k a w
  | .fin _ :: k, a, w => Kpost_ret P Q k a w
  | .any .. :: k, a, w => Kpost_ret P Q k a w

theorem Kpost_panic (P : Program) (Q : Exit → Act → World → Prop) (c : List PanicEntry) : ∀ (k : List KI) (a : Act) (w : World), Kpost P Q k (.panic c) a w = Q (.panic c) a w
  | [], _, _ => rfl
  | .code _ :: k, a, w => Kpost_panic P Q c k a w
  | .ops .. :: k, a, w => Kpost_panic P Q c k a w
  | .blk _ :: k, a, w => Kpost_panic P Q c k a w
  | .fin _ :: k, a, w => Kpost_panic P Q c k a w
  | .any .. :: k, a, w => Kpost_panic P Q c k a w

def popExit (id : Nat) : List KI → Option (List KI)
  | .blk id' :: k => match Nat.beq id id' with
    | true => some k
    | false => popExit id k
  | _ :: k => popExit id k
  | [] => none

theorem popExit_sound (P : Program) (Q : Exit → Act → World → Prop) (id : Nat) : ∀ {k k' : List KI}, popExit id k = some k' → ∀ (a : Act) (w : World), Kpost P Q k' .normal a w → Kpost P Q k (.exit id) a w
  | [], _, h, _, _, _ => by simp [popExit] at h
  | .blk id' :: k, k', h, a, w, hk => by
    simp only [popExit] at h
    split at h
    · rename_i hb
      have := Nat.eq_of_beq_eq_true hb
      subst this
      cases h
      simpa [Kpost, Exit.inBlock] using hk
    · rename_i hb
      have hne : id ≠ id' := Nat.ne_of_beq_eq_false hb
      simp only [Kpost, Exit.inBlock, if_neg hne]
      exact popExit_sound P Q id h a w hk
  | .code _ :: k, k', h, a, w, hk => popExit_sound P Q id (k := k) h a w hk
  | .ops .. :: k, k', h, a, w, hk => popExit_sound P Q id (k := k) h a w hk
  | .fin _ :: k, k', h, a, w, hk => popExit_sound P Q id (k := k) h a w hk
  | .any .. :: k, k', h, a, w, hk => popExit_sound P Q id (k := k) h a w hk

/-! ### results -/
def vcRes (tab : Tab) (l : L) (Rs : List Res) : List ResultVar → (List Value → Prop) → Prop
  | [], K => K []
  | .tmp t :: r, K => match look l t with
    | some s => vcRes tab l Rs r fun vs => K (s.val :: vs)
    | none => False
  | .cell t T :: r, K => vcLoad tab Rs T (look l t) (fun v => vcRes tab l Rs r fun vs => K (v :: vs)) False

def retV : List Value → Value
  | [v] => v
  | vs => .tuple vs.toArray

def readRes (a : Act) : ResultVar → Sem Value
  | .tmp t => pure (a.tmps.getD t undef)
  | .cell p t => do loadVar t (← asAddr (a.tmps.getD p undef))

theorem vcRes_sound {P : Program} {tab : Tab} {N : Nat} {hfs : List PH} (ht : TabOk P tab) {l : L} {Rs : List Res} {a : Act} {w : World} (hf : Fr N a l) (hm : Mod hfs Rs w) :
    ∀ (rs : List ResultVar) (K : List Value → Prop), vcRes tab l Rs rs K → ∃ vs, K vs ∧ (rs.mapM (readRes a)).run P w = .ok vs w
  | [], K, h => ⟨[], h, by simp⟩
  | .tmp t :: r, K, h => by
    simp only [vcRes] at h
    split at h
    · rename_i s hs
      obtain ⟨vs, h1, h2⟩ := vcRes_sound ht hf hm r _ h
      refine ⟨_, h1, ?_⟩
      simp only [List.mapM_cons, readRes, Sem.run_bind, Sem.run_pure, Result.andThen_ok, h2]
      rw [Array.getD_eq_getD_getElem?, hf.at_ t s hs]
      rfl
    · exact h.elim
  | .cell t T :: r, K, h => by
    simp only [vcRes] at h
    rcases vcLoad_sound ht hm h with h | ⟨p, u, h1, h2, h3⟩
    · exact h.elim
    · obtain ⟨vs, k1, k2⟩ := vcRes_sound ht hf hm r _ h2
      refine ⟨_, k1, ?_⟩
      have hp : a.tmps.getD t undef = .pointer (some p) := by rw [Array.getD_eq_getD_getElem?, hf.at_ t _ h1]; rfl
      simp only [Instr.loadAt, Instr.sureAddr, Sem.run_bind, Sem.run_pure, Result.andThen_ok] at h3
      simp only [List.mapM_cons, readRes, Sem.run_bind, hp, asAddr, Sem.run_pure, Result.andThen_ok, h3, k2]

def vcRet (E : Env) (l : L) (Rs : List Res) : Prop := vcRes E.tab l Rs E.res fun vs => E.post (retV vs) Rs

theorem vcRet_sound {E : Env} (ht : TabOk E.P E.tab) {l : L} {Rs : List Res} {a : Act} {w : World} (hf : Fr E.N a l) (hm : Mod E.hfs Rs w) (hio : Oth E.w0 w) (h : vcRet E l Rs) : E.Q .ret a w := by
  obtain ⟨vs, h1, h2⟩ := vcRes_sound ht hf hm _ _ h
  refine ⟨hf.defers, fun fn hfn => ⟨retV vs, ?_, retV vs, Rs, rfl, h1, hm, hio⟩⟩
  have hr : (results fn a.tmps) = (do let vs ← fn.results.mapM (readRes a); pure (if h : vs.size = 1 then vs[0] else .tuple vs)) := by
    unfold results
    congr 1
  rw [hr, Sem.run_bind, Array.mapM_eq_mapM_toList, hfn]
  simp only [Sem.run_map, h2, Result.andThen_ok, Sem.run_pure]
  match vs with
  | [] => rfl
  | [v] => rfl
  | u :: v :: r => simp [retV]

end Go.RX
