/- RX, first part: Mod, resources, what is left to run, computation. -/
import Derived.OrdersHeld
import Derived.Tactics
import Derived.Below
import Derived.Laws.Rows
import Derived.WalkArith
import Derived.Laws.Slices
import Derived.Laws.Pointers
/- RX, part 1: memory as a list of resources; what a world must hold; how it may change. Plain laws, no program. -/
set_option autoImplicit false
set_option linter.unusedVariables false
set_option linter.unusedSimpArgs false
namespace Go.RX
open Go

/-! ### heaps -/
abbrev PH := Nat → Option Obj
def Dj (a b : PH) : Prop := ∀ n, a n = none ∨ b n = none
def Sub (h : PH) (w : World) : Prop := ∀ n o, h n = some o → w.heap[n]? = some o
abbrev HP := PH → Prop
def one (b : Nat) (o : Obj) : PH := fun n => if n = b then some o else none
def emp : PH := fun _ => none
def heapOf (w : World) : PH := fun n => w.heap[n]?

theorem Dj.symm {a b : PH} (h : Dj a b) : Dj b a := fun n => (h n).symm
theorem one_same (b : Nat) (o : Obj) : one b o b = some o := by simp [one]
theorem one_ne {b n : Nat} (o : Obj) (h : n ≠ b) : one b o n = none := by simp [one, h]
theorem Sub.lt {h : PH} {w : World} (hs : Sub h w) {n : Nat} {o : Obj} (e : h n = some o) : n < w.heap.size :=
  (Array.getElem?_eq_some_iff.1 (hs n o e)).1
theorem Sub.ge {h : PH} {w : World} (hs : Sub h w) {n : Nat} (hn : w.heap.size ≤ n) : h n = none := by
  cases e : h n with
  | none => rfl
  | some o => have := hs.lt e; omega
theorem Sub.emp (w : World) : Sub emp w := fun _ _ e => by cases e
theorem Sub.heapOf (w : World) : Sub (heapOf w) w := fun _ _ e => e
theorem Sub.one {w : World} {b : Nat} {o : Obj} (h : w.heap[b]? = some o) : Sub (RX.one b o) w := by
  intro n o' e
  unfold RX.one at e
  split at e
  · cases e; subst_vars; exact h
  · cases e

inductive Res where
  | blk (b : Nat) (T : TypeId) (cs : List Value)
  | hp (R : HP)

def Res.sem : Res → HP
  | .blk b T cs => fun h => h = one b (.cells cs.toArray T (0, 0))
  | .hp R => R

def Sems : List Res → List PH → Prop
  | [], [] => True
  | R :: Rs, h :: hs => R.sem h ∧ Sems Rs hs
  | _, _ => False

def Wf (L : List PH) (w : World) : Prop := (∀ h ∈ L, Sub h w) ∧ L.Pairwise Dj

/-- The world holds the resources, each in memory of its own, beside the frame's heaps. -/
def Mod (hfs : List PH) (Rs : List Res) (w : World) : Prop := ∃ hs, Sems Rs hs ∧ Wf (hs ++ hfs) w

theorem Wf.perm {a b : List PH} {w : World} (hp : a.Perm b) (h : Wf a w) : Wf b w :=
  ⟨fun x hx => h.1 x (hp.mem_iff.2 hx), (hp.pairwise_iff (fun h => Dj.symm h)).1 h.2⟩

theorem Wf.cons {h : PH} {r : List PH} {w : World} : Wf (h :: r) w ↔ Sub h w ∧ (∀ g ∈ r, Dj h g) ∧ Wf r w := by
  unfold Wf
  simp only [List.mem_cons, forall_eq_or_imp, List.pairwise_cons]
  exact ⟨fun ⟨⟨a, b⟩, c, d⟩ => ⟨a, c, b, d⟩, fun ⟨a, c, b, d⟩ => ⟨⟨a, b⟩, c, d⟩⟩

/-- One heap turns into another one, in another world; all else stays. -/
theorem Wf.change {h h' : PH} {r : List PH} {w w' : World} (hw : Wf (h :: r) w)
    (hk : ∀ n, n < w.heap.size → h n = none → w'.heap[n]? = w.heap[n]? ∧ h' n = none) (hs : Sub h' w') : Wf (h' :: r) w' := by
  obtain ⟨_, h2, h3⟩ := Wf.cons.1 hw
  refine Wf.cons.2 ⟨hs, fun g hg n => ?_, fun g hg n o e => ?_, h3.2⟩
  · cases e : g n with
    | none => exact .inr rfl
    | some o =>
      have hlt := (h3.1 g hg).lt e
      rcases h2 g hg n with hn | hn
      · exact .inl (hk n hlt hn).2
      · rw [hn] at e; cases e
  · have hlt := (h3.1 g hg).lt e
    rcases h2 g hg n with hn | hn
    · rw [(hk n hlt hn).1]; exact h3.1 g hg n o e
    · rw [hn] at e; cases e

theorem Wf.addEmp {r : List PH} {w : World} (h : Wf r w) : Wf (emp :: r) w := Wf.cons.2 ⟨Sub.emp w, fun _ _ _ => .inl rfl, h⟩

theorem Sems.length : ∀ {Rs : List Res} {hs : List PH}, Sems Rs hs → hs.length = Rs.length
  | [], [], _ => rfl
  | [], _ :: _, h => h.elim
  | _ :: _, [], h => h.elim
  | _ :: Rs, _ :: hs, h => by simp [Sems.length h.2]

theorem Sems.append : ∀ {a b : List Res} {ha hb : List PH}, Sems a ha → Sems b hb → Sems (a ++ b) (ha ++ hb)
  | [], _, [], _, _, h => h
  | [], _, _ :: _, _, h, _ => h.elim
  | _ :: _, _, [], _, h, _ => h.elim
  | _ :: a, b, _ :: ha, hb, h, k => ⟨h.1, Sems.append h.2 k⟩

theorem Sems.split : ∀ {a b : List Res} {hs : List PH}, Sems (a ++ b) hs → ∃ ha hb, hs = ha ++ hb ∧ Sems a ha ∧ Sems b hb
  | [], _, hs, h => ⟨[], hs, rfl, trivial, h⟩
  | _ :: _, _, [], h => h.elim
  | R :: a, b, x :: hs, h => by
    obtain ⟨ha, hb, e, h1, h2⟩ := Sems.split (a := a) h.2
    exact ⟨x :: ha, hb, by simp [e], ⟨h.1, h1⟩, h2⟩

/-- The resource at a place; and another one in its stead. -/
theorem Sems.at_ : ∀ {Rs : List Res} {hs : List PH} {i : Nat} {R : Res}, Sems Rs hs → Rs[i]? = some R →
    ∃ h r, R.sem h ∧ hs.Perm (h :: r) ∧ ∀ R' h', R'.sem h' → ∃ hs', Sems (Rs.set i R') hs' ∧ hs'.Perm (h' :: r)
  | [], _, _, _, _, h => by simp at h
  | _ :: _, [], _, _, h, _ => h.elim
  | S :: Rs, x :: hs, 0, R, h, hi => by
    simp at hi; subst hi
    exact ⟨x, hs, h.1, List.Perm.refl _, fun R' h' hr => ⟨h' :: hs, ⟨hr, h.2⟩, List.Perm.refl _⟩⟩
  | S :: Rs, x :: hs, i + 1, R, h, hi => by
    obtain ⟨g, r, h1, h2, h3⟩ := Sems.at_ (i := i) h.2 (by simpa using hi)
    refine ⟨g, x :: r, h1, (h2.cons x).trans (List.Perm.swap _ _ _), fun R' h' hr => ?_⟩
    obtain ⟨hs', k1, k2⟩ := h3 R' h' hr
    exact ⟨x :: hs', ⟨h.1, k1⟩, (k2.cons x).trans (List.Perm.swap _ _ _)⟩

theorem Mod.wf {hfs : List PH} {Rs : List Res} {w : World} (hm : Mod hfs Rs w) : Wf hfs w := by
  obtain ⟨hs, _, h⟩ := hm
  exact ⟨fun x hx => h.1 x (by simp [hx]), (List.pairwise_append.1 h.2).2.1⟩

theorem Mod.sub {hfs : List PH} {Rs : List Res} {w : World} (hm : Mod hfs Rs w) : ∀ h ∈ hfs, Sub h w := hm.wf.1

theorem Mod.perm {hfs hfs' : List PH} {Rs : List Res} {w : World} (hp : hfs.Perm hfs') (hm : Mod hfs Rs w) : Mod hfs' Rs w := by
  obtain ⟨hs, h1, h2⟩ := hm
  exact ⟨hs, h1, h2.perm (hp.append_left hs)⟩

/-- A resource's memory turns into another one's. -/
theorem Mod.turn {hfs : List PH} {Rs : List Res} {w w' : World} {i : Nat} {R R' : Res} (hm : Mod hfs Rs w) (hi : Rs[i]? = some R)
    (h : ∀ h, R.sem h → Sub h w → ∃ h', R'.sem h' ∧ Sub h' w' ∧ ∀ n, n < w.heap.size → h n = none → w'.heap[n]? = w.heap[n]? ∧ h' n = none) : Mod hfs (Rs.set i R') w' := by
  obtain ⟨hs, h1, h2⟩ := hm
  obtain ⟨g, r, k1, k2, k3⟩ := h1.at_ hi
  have h2' : Wf (g :: (r ++ hfs)) w := h2.perm (k2.append_right hfs)
  obtain ⟨g', m1, m2, m3⟩ := h g k1 (h2'.1 g (by simp))
  obtain ⟨hs', n1, n2⟩ := k3 R' g' m1
  exact ⟨hs', n1, (h2'.change m3 m2).perm (n2.symm.append_right hfs)⟩

/-- A resource's memory, and what it may turn into. -/
theorem Mod.open_ {hfs : List PH} {Rs : List Res} {w : World} {i : Nat} {R : Res} (hm : Mod hfs Rs w) (hi : Rs[i]? = some R) :
    ∃ h, R.sem h ∧ Sub h w ∧ ∀ (R' : Res) (h' : PH) (w' : World), R'.sem h' → Sub h' w' → (∀ n, n < w.heap.size → h n = none → w'.heap[n]? = w.heap[n]? ∧ h' n = none) → Mod hfs (Rs.set i R') w' := by
  obtain ⟨hs, h1, h2⟩ := hm
  obtain ⟨g, r, k1, k2, k3⟩ := h1.at_ hi
  have h2' : Wf (g :: (r ++ hfs)) w := h2.perm (k2.append_right hfs)
  refine ⟨g, k1, h2'.1 g (by simp), fun R' g' w' m1 m2 m3 => ?_⟩
  obtain ⟨hs', n1, n2⟩ := k3 R' g' m1
  exact ⟨hs', n1, (h2'.change m3 m2).perm (n2.symm.append_right hfs)⟩

/-- What a resource says of the world. -/
theorem Mod.get {hfs : List PH} {Rs : List Res} {w : World} {i : Nat} {R : Res} (hm : Mod hfs Rs w) (hi : Rs[i]? = some R) : ∃ h, R.sem h ∧ Sub h w := by
  obtain ⟨hs, h1, h2⟩ := hm
  obtain ⟨g, r, k1, k2, _⟩ := h1.at_ hi
  exact ⟨g, k1, h2.1 g (List.mem_append_left _ (k2.mem_iff.2 (by simp)))⟩

theorem Mod.set_same {Rs : List Res} {i : Nat} {R : Res} (hi : Rs[i]? = some R) : Rs.set i R = Rs := by
  induction Rs generalizing i with
  | nil => simp at hi
  | cons S Rs ih =>
    cases i with
    | zero => simp at hi; subst hi; rfl
    | succ i => simp at hi; simp [ih hi]

/-- Old blocks as they were. -/
theorem Mod.keep {hfs : List PH} {Rs : List Res} {w w' : World} (hm : Mod hfs Rs w) (hk : ∀ n, n < w.heap.size → w'.heap[n]? = w.heap[n]?) : Mod hfs Rs w' := by
  obtain ⟨hs, h1, h2⟩ := hm
  exact ⟨hs, h1, fun h hh n o e => by rw [hk n ((h2.1 h hh).lt e)]; exact h2.1 h hh n o e, h2.2⟩

/-- Beside it a new resource, in new memory. -/
theorem Mod.add {hfs : List PH} {Rs : List Res} {w w' : World} {R : Res} {h : PH} (hm : Mod hfs Rs w) (hk : ∀ n, n < w.heap.size → w'.heap[n]? = w.heap[n]?)
    (hR : R.sem h) (hn : ∀ n, n < w.heap.size → h n = none) (hs : Sub h w') : Mod hfs (R :: Rs) w' := by
  obtain ⟨hs0, h1, h2⟩ := hm
  refine ⟨h :: hs0, ⟨hR, h1⟩, ?_⟩
  exact h2.addEmp.change (fun n hlt _ => ⟨hk n hlt, hn n hlt⟩) hs

theorem Mod.blk_at {hfs : List PH} {Rs : List Res} {w : World} {i b : Nat} {T : TypeId} {cs : List Value} (hm : Mod hfs Rs w) (hi : Rs[i]? = some (.blk b T cs)) :
    w.heap[b]? = some (.cells cs.toArray T (0, 0)) := by
  obtain ⟨h, h1, h2⟩ := hm.get hi
  cases h1
  exact h2 _ _ (one_same _ _)

/-- A block of known cells is written. -/
theorem Mod.setBlk {hfs : List PH} {Rs : List Res} {w w' : World} {i b : Nat} {T : TypeId} {cs cs' : List Value} (hm : Mod hfs Rs w) (hi : Rs[i]? = some (.blk b T cs))
    (hb : w'.heap[b]? = some (.cells cs'.toArray T (0, 0))) (hk : ∀ n, n ≠ b → w'.heap[n]? = w.heap[n]?) : Mod hfs (Rs.set i (.blk b T cs')) w' :=
  hm.turn hi fun h h1 _ => by
    cases h1
    refine ⟨_, rfl, Sub.one hb, fun n _ hn => ?_⟩
    have hne : n ≠ b := fun e => by subst e; rw [one_same] at hn; cases hn
    exact ⟨hk n hne, one_ne _ hne⟩

/-- A new block of known cells. -/
theorem Mod.newBlk {hfs : List PH} {Rs : List Res} {w : World} (hm : Mod hfs Rs w) (T : TypeId) (cs : List Value) :
    Mod hfs (.blk w.heap.size T cs :: Rs) { w with heap := w.heap.push (.cells cs.toArray T (0, 0)) } :=
  hm.add (h := one w.heap.size (.cells cs.toArray T (0, 0))) (fun n hn => by simp [Array.getElem?_push, Nat.ne_of_lt hn]) rfl (fun n hn => one_ne _ (Nat.ne_of_lt hn)) (Sub.one (by simp))

theorem Mod.permRs {hfs : List PH} {a b : List Res} {w : World} (hp : a.Perm b) (hm : Mod hfs a w) : Mod hfs b w := by
  have key : ∀ {a b : List Res}, a.Perm b → ∀ hs, Sems a hs → ∃ hs', Sems b hs' ∧ hs.Perm hs' := by
    intro a b hp
    induction hp with
    | nil => exact fun hs h => ⟨hs, h, List.Perm.refl _⟩
    | cons x hp ih =>
      intro hs h
      cases hs with
      | nil => exact h.elim
      | cons g hs => obtain ⟨hs', k1, k2⟩ := ih hs h.2; exact ⟨g :: hs', ⟨h.1, k1⟩, k2.cons g⟩
    | swap x y l =>
      intro hs h
      cases hs with
      | nil => exact h.elim
      | cons g hs =>
        cases hs with
        | nil => exact h.2.elim
        | cons g2 hs => exact ⟨g2 :: g :: hs, ⟨h.2.1, h.1, h.2.2⟩, List.Perm.swap _ _ _⟩
    | trans _ _ i1 i2 =>
      intro hs h
      obtain ⟨h1, k1, k2⟩ := i1 hs h
      obtain ⟨h2, m1, m2⟩ := i2 h1 k1
      exact ⟨h2, m1, k2.trans m2⟩
  obtain ⟨hs, h1, h2⟩ := hm
  obtain ⟨hs', k1, k2⟩ := key hp hs h1
  exact ⟨hs', k1, h2.perm (k2.append_right hfs)⟩

/-- Some resources alone, the others as part of the frame; and back. -/
theorem Mod.split {hfs : List PH} {a b : List Res} {w : World} (hm : Mod hfs (a ++ b) w) : ∃ hb, Mod (hb ++ hfs) a w ∧ ∀ (a' : List Res) (w' : World), Mod (hb ++ hfs) a' w' → Mod hfs (a' ++ b) w' := by
  obtain ⟨hs, h1, h2⟩ := hm
  obtain ⟨ha, hb, rfl, k1, k2⟩ := Sems.split h1
  refine ⟨hb, ⟨ha, k1, by simpa using h2⟩, fun a' w' ⟨ha', m1, m2⟩ => ⟨ha' ++ hb, Sems.append m1 k2, by simpa using m2⟩⟩

theorem Mod.drop {hfs : List PH} {a b : List Res} {w : World} (hm : Mod hfs (a ++ b) w) : Mod hfs b w := by
  obtain ⟨hs, h1, h2⟩ := hm
  obtain ⟨ha, hb, rfl, k1, k2⟩ := Sems.split h1
  refine ⟨hb, k2, fun x hx => h2.1 x (by simp at hx ⊢; exact .inr hx), ?_⟩
  have := h2.2
  rw [List.append_assoc] at this
  exact (List.pairwise_append.1 this).2.1

theorem Mod.dropAt {hfs : List PH} {Rs : List Res} {w : World} (i : Nat) (hm : Mod hfs Rs w) : Mod hfs (Rs.eraseIdx i) w := by
  by_cases hi : i < Rs.length
  · refine Mod.drop (a := [Rs[i]]) (hm.permRs ?_)
    rw [List.eraseIdx_eq_take_drop_succ]
    have : Rs = Rs.take i ++ Rs[i] :: Rs.drop (i + 1) := by simp
    exact (List.Perm.of_eq this).trans List.perm_middle
  · rwa [List.eraseIdx_of_length_le (by omega)]

/-! ### the world's other parts -/
structure Oth (w w' : World) : Prop where
  os : w'.os = w.os
  tape : w'.tape = w.tape
  output : w'.output = w.output
  size : w.heap.size ≤ w'.heap.size
  drawn : w.drawn ≤ w'.drawn

/-- Old blocks as they were, and no draw is taken back. -/
structure BelowD (B : Nat) (w w' : World) : Prop extends Go.RowKit.Below B w w' where
  drawn : w.drawn ≤ w'.drawn
theorem BelowD.refl (B : Nat) (w : World) : BelowD B w w := ⟨Go.RowKit.Below.refl B w, Nat.le_refl _⟩
theorem BelowD.trans {B : Nat} {a b c : World} (h : BelowD B a b) (k : BelowD B b c) : BelowD B a c := ⟨h.toBelow.trans k.toBelow, Nat.le_trans h.drawn k.drawn⟩
theorem BelowD.mono {B B' : Nat} {a b : World} (h : BelowD B a b) (hB : B' ≤ B) : BelowD B' a b := ⟨h.toBelow.mono hB, h.drawn⟩

theorem Oth.refl (w : World) : Oth w w := ⟨rfl, rfl, rfl, Nat.le_refl _, Nat.le_refl _⟩
theorem Oth.trans {a b c : World} (h : Oth a b) (k : Oth b c) : Oth a c := ⟨k.os.trans h.os, k.tape.trans h.tape, k.output.trans h.output, Nat.le_trans h.size k.size, Nat.le_trans h.drawn k.drawn⟩
theorem Oth.push (w : World) (o : Obj) : Oth w { w with heap := w.heap.push o } := ⟨rfl, rfl, rfl, by simp, Nat.le_refl _⟩
theorem Oth.of_below {B : Nat} {w w' : World} (h : BelowD B w w') : Oth w w' := ⟨h.os, h.tape, h.output, h.size, h.drawn⟩

theorem Mod.start (w : World) : Mod [heapOf w] [] w := ⟨[], trivial, by simp [Wf, Sub.heapOf]⟩

/-- All of a world as one heap: what is behind a call that only makes memory. -/
theorem Mod.below {w w' : World} {Rs : List Res} (hm : Mod [heapOf w] Rs w') (hi : Oth w w') : BelowD w.heap.size w w' :=
  ⟨⟨hi.os, hi.tape, hi.output, hi.size, fun k hk => by
    have := hm.sub (heapOf w) (by simp) k (w.heap[k]) (by simp [heapOf, hk])
    rw [this]; simp [hk]⟩, hi.drawn⟩

theorem Mod.of_below {w w' : World} (h : BelowD w.heap.size w w') : Mod [heapOf w] [] w' :=
  (Mod.start w).keep fun n hn => h.block n hn

/-- What was made beside a world, beside what was known of that world. -/
theorem Mod.beside {w w' : World} {Rs' : List Res} (hm' : Mod [heapOf w] Rs' w') {hfs : List PH} {Rs : List Res} (hm : Mod hfs Rs w) : Mod hfs (Rs' ++ Rs) w' := by
  obtain ⟨hs', a1, a2⟩ := hm'
  obtain ⟨hs, b1, b2⟩ := hm
  refine ⟨hs' ++ hs, Sems.append a1 b1, ?_⟩
  rw [List.append_assoc]
  have hold : ∀ g ∈ hs ++ hfs, ∀ n o, g n = some o → w'.heap[n]? = some o := fun g hg n o e => a2.1 (heapOf w) (by simp) n o (b2.1 g hg n o e)
  refine ⟨fun g hg => ?_, List.pairwise_append.2 ⟨(List.pairwise_append.1 a2.2).1, b2.2, fun h hh g hg n => ?_⟩⟩
  · rcases List.mem_append.1 hg with hg | hg
    · exact a2.1 g (by simp [hg])
    · exact hold g hg
  · rcases (List.pairwise_append.1 a2.2).2.2 h hh (heapOf w) (by simp) n with hn | hn
    · exact .inl hn
    · refine .inr ?_
      cases e : g n with
      | none => rfl
      | some o => have := b2.1 g hg n o e; simp [heapOf] at hn; rw [Array.getElem?_eq_none hn] at this; cases this

end Go.RX

/- RX, part 2: frames by slots; what stands in them behind operations that touch no memory. -/
set_option autoImplicit false
set_option linter.unusedVariables false
set_option linter.unusedSimpArgs false
namespace Go.RX
open Go

/-! ### slots -/
inductive SV where
  | v (x : Value)
  | tt
  | ff

def SV.val : SV → Value
  | .v x => x
  | .tt => .bool true
  | .ff => .bool false

abbrev L := List (Nat × SV)

def look : L → Nat → Option SV
  | [], _ => none
  | (d, s) :: r, t => match Nat.beq d t with
    | true => some s
    | false => look r t

structure Fr (N : Nat) (a : Act) (l : L) : Prop where
  defers : a.defers = []
  size : a.tmps.size = N
  at_ : ∀ t s, look l t = some s → a.tmps[t]? = some s.val

theorem Fr.put {N : Nat} {a : Act} {l : L} (h : Fr N a l) {d : Nat} (hd : d < N) (s : SV) : Fr N (a.put (some d) s.val) ((d, s) :: l) := by
  refine ⟨h.defers, by simp [Act.put, h.size], fun t s' e => ?_⟩
  simp only [look] at e
  cases hb : Nat.beq d t with
  | true =>
    rw [hb] at e
    have := Nat.eq_of_beq_eq_true hb
    subst this
    cases e
    simp [Act.put, h.size, hd]
  | false =>
    rw [hb] at e
    have hne : d ≠ t := Nat.ne_of_beq_eq_false hb
    simp only [Act.put]
    rw [Array.getElem?_setIfInBounds_ne hne]
    exact h.at_ t s' e

theorem Fr.mono {N : Nat} {a : Act} {l l' : L} (h : Fr N a l) (hl : ∀ t s, look l' t = some s → look l t = some s ∨ ∃ s', look l t = some s' ∧ s'.val = s.val) : Fr N a l' :=
  ⟨h.defers, h.size, fun t s e => by
    rcases hl t s e with e | ⟨s', e, k⟩
    · exact h.at_ t s e
    · rw [← k]; exact h.at_ t s' e⟩

/-- A slot's Bool is known: it may be written as such. -/
theorem Fr.dec {N : Nat} {a : Act} {l : L} (h : Fr N a l) {t : Nat} {s s' : SV} (e : look l t = some s) (k : s.val = s'.val) : Fr N a ((t, s') :: l) := by
  refine h.mono fun t' s1 e1 => ?_
  simp only [look] at e1
  cases hb : Nat.beq t t' with
  | true =>
    rw [hb] at e1
    have := Nat.eq_of_beq_eq_true hb
    subst this
    cases e1
    exact .inr ⟨s, e, k⟩
  | false => rw [hb] at e1; exact .inl e1

def constSV : Value → Option SV
  | .bool true => some .tt
  | .bool false => some .ff
  | v => some (.v v)
theorem constSV_val {v : Value} {s : SV} (h : constSV v = some s) : s.val = v := by
  unfold constSV at h
  split at h <;> cases h <;> rfl

def ev (l : L) : Operand → Option SV
  | .tmp t => look l t
  | .const v => constSV v
  | .global g => some (.v (.pointer (some ⟨g, 0, none⟩)))
  | .func f => some (.v (.func (.func f) #[] #[]))

theorem ev_sound {N : Nat} {a : Act} {l : L} (h : Fr N a l) {x : Operand} {s : SV} (e : ev l x = some s) : a.eval x = s.val := by
  cases x with
  | tmp t => simp only [ev] at e; simp [Act.eval, Array.getD_eq_getD_getElem?, h.at_ t s e]
  | const v => simp only [ev] at e; simp [Act.eval, constSV_val e]
  | global g => simp only [ev] at e; cases e; rfl
  | func f => simp only [ev] at e; cases e; rfl

def evs (l : L) : List Operand → Option (List Value)
  | [] => some []
  | x :: r => match ev l x with
    | some s => match evs l r with
      | some vs => some (s.val :: vs)
      | none => none
    | none => none

theorem evs_sound {N : Nat} {a : Act} {l : L} (h : Fr N a l) : ∀ {xs : List Operand} {vs : List Value}, evs l xs = some vs → xs.map a.eval = vs
  | [], vs, e => by simp only [evs] at e; cases e; rfl
  | x :: r, vs, e => by
    simp only [evs] at e
    split at e
    · rename_i s hs
      split at e
      · rename_i vs' hvs
        cases e
        simp [ev_sound h hs, evs_sound h hvs]
      · cases e
    · cases e

def evp (l : L) : List (Nat × Operand) → Option (List (Nat × Value))
  | [] => some []
  | (i, x) :: r => match ev l x with
    | some s => match evp l r with
      | some vs => some ((i, s.val) :: vs)
      | none => none
    | none => none

theorem evp_sound {N : Nat} {a : Act} {l : L} (h : Fr N a l) : ∀ {xs : List (Nat × Operand)} {vs : List (Nat × Value)}, evp l xs = some vs → (xs.map fun p => (p.1, a.eval p.2)) = vs
  | [], vs, e => by simp only [evp] at e; cases e; rfl
  | (i, x) :: r, vs, e => by
    simp only [evp] at e
    split at e
    · rename_i s hs
      split at e
      · rename_i vs' hvs
        cases e
        simp [ev_sound h hs, evp_sound h hvs]
      · cases e
    · cases e

/-! ### the types that the code names -/
inductive TK where
  | int (k : IntKind)
  | bool
  | str
  | ptr (e : TypeId)
  | slice (e : TypeId)
  | array (n : Nat) (e : TypeId)
  | map (k v : TypeId)
  | struct (fs : List (Nat × TypeId))
  | other

structure TyI where
  kind : TK
  size : Nat
  bytes : Nat
  zero : Value

abbrev Tab := List (Nat × TyI)

def tlook : Tab → Nat → Option TyI
  | [], _ => none
  | (d, s) :: r, t => match Nat.beq d t with
    | true => some s
    | false => tlook r t

def TK.agg : TK → Bool
  | .array .. => true
  | .struct _ => true
  | _ => false

def TK.ok (d : TypeDesc) : TK → Prop
  | .int k => d = .int k
  | .bool => d = .bool
  | .str => d = .string
  | .ptr e => d = .pointer e
  | .slice e => d = .slice e
  | .array n e => d = .array n e
  | .map k v => d = .map k v
  | .struct fs => ∃ fields, d = .struct fields ∧ (fields.toList.map fun f => (f.offset, f.type)) = fs
  | .other => (match d with | .struct _ => false | .array .. => false | _ => true) = true

structure TyI.ok (P : Program) (t : TypeId) (i : TyI) : Prop where
  desc : ∃ d, P.underlying t = some d ∧ i.kind.ok d
  info : (P.info? t).map (fun x => (x.size, x.bytes, x.zero)) = some (i.size, i.bytes, some i.zero)

def TabOk (P : Program) (tab : Tab) : Prop := ∀ t i, tlook tab t = some i → i.ok P t

theorem TabOk.nil (P : Program) : TabOk P [] := fun t i e => by cases e
theorem TabOk.cons {P : Program} {t : Nat} {i : TyI} {r : Tab} (h : i.ok P t) (hr : TabOk P r) : TabOk P ((t, i) :: r) := by
  intro t' i' e
  simp only [tlook] at e
  cases hb : Nat.beq t t' with
  | true => rw [hb] at e; have := Nat.eq_of_beq_eq_true hb; subst this; cases e; exact h
  | false => rw [hb] at e; exact hr _ _ e

section
variable {P : Program} {w : World}
theorem run_underlying' {t : TypeId} {d : TypeDesc} (h : P.underlying t = some d) : (underlying t).run P w = .ok d w := by
  simp [underlying, program, Sem.run, h]
theorem TyI.ok.run_info {t : TypeId} {i : TyI} (h : i.ok P t) : ∃ x : TypeInfo, (typeInfo t).run P w = .ok x w ∧ x.size = i.size ∧ x.bytes = i.bytes ∧ x.zero = some i.zero := by
  obtain ⟨x, hx, e⟩ := Option.map_eq_some_iff.1 h.info
  simp only [Prod.mk.injEq] at e
  exact ⟨x, by simp [typeInfo, program, Sem.run, hx], e.1, e.2.1, e.2.2⟩
theorem TyI.ok.run_size {t : TypeId} {i : TyI} (h : i.ok P t) : (sizeOf t).run P w = .ok i.size w := by
  obtain ⟨x, hx, e, _⟩ := h.run_info (w := w)
  simp [sizeOf, hx, e]
theorem TyI.ok.run_zero {t : TypeId} {i : TyI} (h : i.ok P t) : (zeroValue t).run P w = .ok i.zero w := by
  obtain ⟨x, hx, _, _, e⟩ := h.run_info (w := w)
  simp [zeroValue, hx, e]
theorem TyI.ok.run_agg {t : TypeId} {i : TyI} (h : i.ok P t) : (isAgg t).run P w = .ok i.kind.agg w := by
  obtain ⟨d, hd, k⟩ := h.desc
  simp only [isAgg, Sem.run_bind, run_underlying' hd, Result.andThen_ok]
  cases e : i.kind with
  | other =>
    rw [e] at k
    simp only [TK.ok] at k
    cases d <;> simp_all [TK.agg]
  | struct fs => rw [e] at k; obtain ⟨f, rfl, _⟩ := k; rfl
  | _ => rw [e] at k; simp only [TK.ok] at k; subst k; rfl
end

/-! ### lists of cells -/
def dropN : Nat → List Value → Option (List Value)
  | 0, r => some r
  | n + 1, _ :: r => dropN n r
  | _ + 1, [] => none
def takeN : Nat → List Value → Option (List Value)
  | 0, _ => some []
  | n + 1, x :: r => match takeN n r with
    | some s => some (x :: s)
    | none => none
  | _ + 1, [] => none
def splice : List Value → Nat → List Value → Option (List Value)
  | c :: cs, n + 1, vs => match splice cs n vs with
    | some s => some (c :: s)
    | none => none
  | [], _ + 1, _ => none
  | cs, 0, [] => some cs
  | _ :: cs, 0, v :: vs => match splice cs 0 vs with
    | some s => some (v :: s)
    | none => none
  | [], 0, _ :: _ => none
def cell1 : Value → Bool
  | .agg _ => false
  | .tuple _ => false
  | _ => true
def allOne : List Value → Bool
  | [] => true
  | v :: r => match cell1 v with
    | true => allOne r
    | false => false
theorem allOne_spec : ∀ {vs : List Value}, allOne vs = true → ∀ v ∈ vs, cell1 v = true
  | [], _, v, hv => by cases hv
  | x :: r, h, v, hv => by
    simp only [allOne] at h
    split at h
    · rcases List.mem_cons.1 hv with rfl | hv
      · assumption
      · exact allOne_spec h v hv
    · cases h

theorem dropN_spec : ∀ {n : Nat} {cs r : List Value}, dropN n cs = some r → n ≤ cs.length ∧ r = cs.drop n
  | 0, cs, r, h => by simp only [dropN] at h; cases h; simp
  | n + 1, [], r, h => by simp [dropN] at h
  | n + 1, x :: cs, r, h => by
    simp only [dropN] at h
    obtain ⟨h1, h2⟩ := dropN_spec h
    exact ⟨by simp; omega, by simp [h2]⟩
theorem takeN_spec : ∀ {n : Nat} {cs r : List Value}, takeN n cs = some r → n ≤ cs.length ∧ r = cs.take n
  | 0, cs, r, h => by simp only [takeN] at h; cases h; simp
  | n + 1, [], r, h => by simp [takeN] at h
  | n + 1, x :: cs, r, h => by
    simp only [takeN] at h
    split at h
    · rename_i s hs
      cases h
      obtain ⟨h1, h2⟩ := takeN_spec hs
      exact ⟨by simp; omega, by simp [h2]⟩
    · cases h
theorem splice_spec : ∀ {cs : List Value} {n : Nat} {vs r : List Value}, splice cs n vs = some r → n + vs.length ≤ cs.length ∧ r = cs.take n ++ vs ++ cs.drop (n + vs.length)
  | c :: cs, n + 1, vs, r, h => by
    simp only [splice] at h
    split at h
    · rename_i s hs
      cases h
      obtain ⟨h1, h2⟩ := splice_spec hs
      refine ⟨by simp; omega, ?_⟩
      rw [h2, show n + 1 + vs.length = (n + vs.length) + 1 from by omega]
      simp
    · cases h
  | [], n + 1, vs, r, h => by simp [splice] at h
  | [], 0, [], r, h => by simp only [splice] at h; cases h; simp
  | c :: cs, 0, [], r, h => by simp only [splice] at h; cases h; simp
  | c :: cs, 0, v :: vs, r, h => by
    simp only [splice] at h
    split at h
    · rename_i s hs
      cases h
      obtain ⟨h1, h2⟩ := splice_spec hs
      refine ⟨by simp at *; omega, ?_⟩
      rw [h2]
      simp
    · cases h
  | [], 0, v :: vs, r, h => by simp [splice] at h

/-! ### parts of a value of several cells -/
def fillL (place : Nat → Option (Nat × Nat)) : List Value → List (Nat × Value) → Option (List Value)
  | cells, [] => some cells
  | cells, (i, v) :: rest => match place i with
    | none => none
    | some (off, size) => match Nat.beq v.cells.toList.length size with
      | false => none
      | true => match splice cells off v.cells.toList with
        | some cells' => fillL place cells' rest
        | none => none

theorem foldl_set (vs : List Value) (off : Nat) : ∀ (k : Nat) (cs : Array Value), off + k + vs.length ≤ cs.size →
    (vs.zipIdx k).foldl (fun cs (x : Value × Nat) => cs.setIfInBounds (off + x.2) x.1) cs = (cs.toList.take (off + k) ++ vs ++ cs.toList.drop (off + k + vs.length)).toArray := by
  induction vs with
  | nil => intro k cs _; simp
  | cons v vs ih =>
    intro k cs h
    simp only [List.length_cons] at h
    simp only [List.zipIdx_cons, List.foldl_cons]
    rw [ih (k + 1) _ (by simp; omega)]
    congr 1
    have hk : off + k < cs.toList.length := by simp; omega
    apply List.ext_getElem?
    intro j
    simp only [Array.toList_setIfInBounds, List.getElem?_append, List.length_append, List.length_take, List.length_set, List.length_cons, List.getElem?_take, List.getElem?_set, List.getElem?_drop, Array.length_toList]
    have hs : cs.toList.length = cs.size := by simp
    rcases Nat.lt_trichotomy j (off + k) with hj | hj | hj
    · have h1 : j < min (off + (k + 1)) cs.size + vs.length := by omega
      have h2 : j < min (off + (k + 1)) cs.size := by omega
      have h3 : j < min (off + k) cs.size + (vs.length + 1) := by omega
      have h4 : j < min (off + k) cs.size := by omega
      have h5 : off + k ≠ j := by omega
      have h6 : j < off + (k + 1) := by omega
      simp [h1, h2, h3, h4, h5, h6, hj]
    · subst hj
      have h1 : off + k < min (off + (k + 1)) cs.size + vs.length := by omega
      have h2 : off + k < min (off + (k + 1)) cs.size := by omega
      have h3 : off + k < min (off + k) cs.size + (vs.length + 1) := by omega
      have h4 : ¬ off + k < min (off + k) cs.size := by omega
      have h5 : off + k - min (off + k) cs.size = 0 := by omega
      have h6 : off + k < off + (k + 1) := by omega
      simp [h1, h2, h3, h4, h5, h6]
      omega
    · have hm : min (off + (k + 1)) cs.size = off + k + 1 := by omega
      have hm' : min (off + k) cs.size = off + k := by omega
      rw [hm, hm']
      by_cases hlt : j < off + k + 1 + vs.length
      · have h1 : ¬ j < off + k + 1 := by omega
        have h2 : j < off + k + (vs.length + 1) := by omega
        have h3 : ¬ j < off + k := by omega
        have h4 : j - (off + k) = (j - (off + k + 1)) + 1 := by omega
        simp [hlt, h1, h2, h3, h4]
      · have h2 : ¬ j < off + k + (vs.length + 1) := by omega
        have h3 : off + k ≠ off + (k + 1) + vs.length + (j - (off + k + 1 + vs.length)) := by omega
        have h4 : off + (k + 1) + vs.length + (j - (off + k + 1 + vs.length)) = off + k + (vs.length + 1) + (j - (off + k + (vs.length + 1))) := by omega
        simp [hlt, h2, h3]
        congr 1

theorem fillL_sound (place : Nat → Option (Nat × Nat)) : ∀ (ps : List (Nat × Value)) (cs cs' : List Value), fillL place cs ps = some cs' → Instr.fill place cs.toArray ps = some cs'.toArray
  | [], cs, cs', h => by simp only [fillL] at h; cases h; rfl
  | (i, v) :: rest, cs, cs', h => by
    simp only [fillL] at h
    simp only [Instr.fill]
    cases hp : place i with
    | none => rw [hp] at h; cases h
    | some os =>
      obtain ⟨off, size⟩ := os
      rw [hp] at h
      simp only at h ⊢
      cases hb : Nat.beq v.cells.toList.length size with
      | false => rw [hb] at h; cases h
      | true =>
        rw [hb] at h
        have hsz := Nat.eq_of_beq_eq_true hb
        simp only at h
        cases hs : splice cs off v.cells.toList with
        | none => rw [hs] at h; cases h
        | some cells' =>
          rw [hs] at h
          simp only at h
          obtain ⟨h1, h2⟩ := splice_spec hs
          simp only [Array.length_toList] at hsz h1
          rw [if_neg (by simp; omega)]
          have hf := foldl_set v.cells.toList off 0 cs.toArray (by simp; omega)
          have hz : v.cells.zipIdx.foldl (fun cs (x : Value × Nat) => match x with | (c, j) => cs.setIfInBounds (off + j) c) cs.toArray = cells'.toArray := by
            rw [← Array.foldl_toList, Array.toList_zipIdx]
            rw [h2]
            simpa using hf
          rw [hz]
          exact fillL_sound place rest cells' cs' h

end Go.RX

/- RX, part 3: operations that touch no memory: what each leaves, by computation; and that the model says so. -/
set_option autoImplicit false
set_option linter.unusedVariables false
set_option linter.unusedSimpArgs false
namespace Go.RX
open Go

/-- A number of a kind's range needs no wrap. -/
theorem wrap_i64 {n : Int} (h0 : -9223372036854775808 ≤ n) (h1 : n ≤ 9223372036854775807) : n = IntKind.i64.wrap n := by
  simp only [IntKind.wrap, IntKind.bits, IntKind.signed]
  simp
  omega
theorem wrap_u8 {n : Int} (h0 : 0 ≤ n) (h1 : n ≤ 255) : n = IntKind.u8.wrap n := by
  simp only [IntKind.wrap, IntKind.bits, IntKind.signed]
  simp
  omega
theorem wrap_i32 {n : Int} (h0 : -2147483648 ≤ n) (h1 : n ≤ 2147483647) : n = IntKind.i32.wrap n := by
  simp only [IntKind.wrap, IntKind.bits, IntKind.signed]
  simp
  omega
theorem wrap_u64 {n : Int} (h0 : 0 ≤ n) (h1 : n ≤ 18446744073709551615) : n = IntKind.u64.wrap n := by
  simp only [IntKind.wrap, IntKind.bits, IntKind.signed]
  simp
  omega

def addA (a : Addr) (m : Nat) : Addr := match a.spot with
  | none => ⟨a.block, a.off + m, none⟩
  | some _ => a.add m
theorem addA_eq (a : Addr) (m : Nat) : addA a m = a.add m := by
  obtain ⟨b, o, s⟩ := a
  cases s with
  | none => simp only [addA, Addr.add]; split <;> simp_all
  | some x => rfl

def vbin (op : BinOp) (x y : Value) (K : SV → Prop) : Option Prop :=
  match op, x, y with
  | .add, .int k a, .int k' b => match decide (k = k') with
    | true => some (∃ z, z = k.wrap (a + b) ∧ K (.v (.int k z)))
    | false => none
  | .sub, .int k a, .int k' b => match decide (k = k') with
    | true => some (∃ z, z = k.wrap (a - b) ∧ K (.v (.int k z)))
    | false => none
  | .mul, .int k a, .int k' b => match decide (k = k') with
    | true => some (∃ z, z = k.wrap (a * b) ∧ K (.v (.int k z)))
    | false => none
  | .quo, .int k a, .int k' b => match decide (k = k') with
    | true => some (b ≠ 0 ∧ ∃ z, z = k.wrap (a.tdiv b) ∧ K (.v (.int k z)))
    | false => none
  | .rem, .int k a, .int k' b => match decide (k = k') with
    | true => some (b ≠ 0 ∧ ∃ z, z = a.tmod b ∧ K (.v (.int k z)))
    | false => none
  | .and, .int k a, .int k' b => match decide (k = k') with
    | true => some (∃ z, z = k.wrap (BitVec.ofInt k.bits a &&& BitVec.ofInt k.bits b).toNat ∧ K (.v (.int k z)))
    | false => none
  | .lss, .int k a, .int k' b => match decide (k = k') with
    | true => some (K (.v (.bool (decide (a < b)))))
    | false => none
  | .leq, .int k a, .int k' b => match decide (k = k') with
    | true => some (K (.v (.bool (decide (a ≤ b)))))
    | false => none
  | .gtr, .int k a, .int k' b => match decide (k = k') with
    | true => some (K (.v (.bool (decide (b < a)))))
    | false => none
  | .geq, .int k a, .int k' b => match decide (k = k') with
    | true => some (K (.v (.bool (decide (b ≤ a)))))
    | false => none
  | .eql, .int k a, .int k' b => match decide (k = k') with
    | true => some (K (.v (.bool (decide (a = b)))))
    | false => none
  | .neq, .int k a, .int k' b => match decide (k = k') with
    | true => some (K (.v (.bool (!decide (a = b)))))
    | false => none
  | .eql, .string a, .string b => some (K (.v (.bool (a.toList == b.toList))))
  | .neq, .string a, .string b => some (K (.v (.bool (!(a.toList == b.toList)))))
  | .lss, .string a, .string b => some (K (.v (.bool (Op.bytesLess a.toList b.toList))))
  | .gtr, .string a, .string b => some (K (.v (.bool (!(Op.bytesLess a.toList b.toList || a.toList == b.toList)))))
  | .geq, .string a, .string b => some (K (.v (.bool (!(Op.bytesLess a.toList b.toList)))))
  | .leq, .string a, .string b => some (K (.v (.bool (Op.bytesLess a.toList b.toList || a.toList == b.toList))))
  | _, _, _ => none

theorem eqGuard_int (P : Program) (w : World) (op : BinOp) (t : TypeId) (x y : Operand) (k k' : IntKind) (a b : Int) : (eqGuard op t x y (.int k a) (.int k' b)).run P w = .ok () w := by
  cases op <;> simp [eqGuard]
theorem eqGuard_string (P : Program) (w : World) (op : BinOp) (t : TypeId) (x y : Operand) (a b : ByteArray) : (eqGuard op t x y (.string a) (.string b)).run P w = .ok () w := by
  cases op <;> simp [eqGuard]
theorem eqGuard_bool (P : Program) (w : World) (op : BinOp) (t : TypeId) (x y : Operand) (a b : Bool) : (eqGuard op t x y (.bool a) (.bool b)).run P w = .ok () w := by
  cases op <;> simp [eqGuard]
theorem eqGuard_pointer (P : Program) (w : World) (op : BinOp) (t : TypeId) (x y : Operand) (a b : Option Addr) : (eqGuard op t x y (.pointer a) (.pointer b)).run P w = .ok () w := by
  cases op <;> simp [eqGuard]
theorem eqGuard_func (P : Program) (w : World) (op : BinOp) (t : TypeId) (x y : Operand) (v : Value) (h : v ≠ .nilIface) (h' : ∀ c, v ≠ .agg c) (u : Value) : (eqGuard op t x y v u).run P w = .ok () w := by
  cases op <;> simp [eqGuard] <;> cases v <;> simp_all

/-- What the model's operation does to two values. -/
def binRun (op : BinOp) (t : TypeId) (x y : Operand) (a b : Value) : Sem Value := do eqGuard op t x y a b; binOp op t a b

theorem vbin_sound {P : Program} {op : BinOp} {x y : Value} {K : SV → Prop} {X : Prop} (h : vbin op x y K = some X) (hx : X) :
    ∃ s, K s ∧ ∀ (t : TypeId) (p q : Operand) (w : World), (binRun op t p q x y).run P w = .ok s.val w := by
  unfold vbin at h
  split at h <;> (try split at h) <;> (try (cases h; done)) <;> (try (rename_i hk; have hk := of_decide_eq_true hk; subst hk)) <;> cases h
  · obtain ⟨z, rfl, hk⟩ := hx; exact ⟨_, hk, fun t p q w => by simp [binRun, eqGuard_int, binOp, Op.intArith, SV.val]⟩
  · obtain ⟨z, rfl, hk⟩ := hx; exact ⟨_, hk, fun t p q w => by simp [binRun, eqGuard_int, binOp, Op.intArith, SV.val]⟩
  · obtain ⟨z, rfl, hk⟩ := hx; exact ⟨_, hk, fun t p q w => by simp [binRun, eqGuard_int, binOp, Op.intArith, SV.val]⟩
  · obtain ⟨h0, z, rfl, hk⟩ := hx; exact ⟨_, hk, fun t p q w => by simp [binRun, eqGuard_int, binOp, Op.intDiv, SV.val, h0]⟩
  · obtain ⟨h0, z, rfl, hk⟩ := hx; exact ⟨_, hk, fun t p q w => by simp [binRun, eqGuard_int, binOp, Op.intDiv, SV.val, h0]⟩
  · obtain ⟨z, rfl, hk⟩ := hx; exact ⟨_, hk, fun t p q w => by simp [binRun, eqGuard_int, binOp, Op.intBits, SV.val]⟩
  all_goals
    refine ⟨_, hx, fun t p q w => ?_⟩
    first
      | (simp [binRun, eqGuard_int, binOp, Op.intCmp, SV.val]; done)
      | (simp [binRun, eqGuard_int, binOp, Op.intCmp, SV.val]; rfl)
      | (simp [binRun, eqGuard_string, binOp, Op.stringOp, SV.val]; done)
      | (simp [binRun, eqGuard_int, binOp, Op.intCmp, SV.val, bne]; rfl)

end Go.RX

/- RX, part 4: the operations that touch no memory, all of them under one function. -/
set_option autoImplicit false
set_option linter.unusedVariables false
set_option linter.unusedSimpArgs false
namespace Go.RX
open Go

/-- What operation 'op' leaves, in whatever world. -/
def Leaves (P : Program) (a : Act) (op : Op) (s : SV) : Prop := ∀ (w : World) (o : Oper), o.op = op → (execOp a.eval o).run P w = .ok (.value s.val) w

def nth {α : Type} : List α → Nat → Option α
  | [], _ => none
  | x :: _, 0 => some x
  | _ :: r, n + 1 => nth r n
theorem nth_eq {α : Type} : ∀ (l : List α) (n : Nat), nth l n = l[n]?
  | [], n => by simp [nth]
  | x :: r, 0 => by simp [nth]
  | x :: r, n + 1 => by simp [nth, nth_eq r n]

def kindIs (tab : Tab) (t : Nat) : Option TK := match tlook tab t with
  | some i => some i.kind
  | none => none

section parts
variable {P : Program} {tab : Tab} {N : Nat} {a : Act} {l : L} {K : SV → Prop} {X : Prop}

/-! #### moves -/
def popMove (l : L) (x : Operand) (K : SV → Prop) : Option Prop := match ev l x with
  | some s => some (K s)
  | none => none
theorem popMove_sound (hf : Fr N a l) {x : Operand} (h : popMove l x K = some X) (hx : X) : ∃ s, K s ∧ Leaves P a (.move x) s ∧ Leaves P a (.assign x) s := by
  unfold popMove at h
  split at h
  · rename_i s hs
    cases h
    refine ⟨s, hx, fun w o ho => ?_, fun w o ho => ?_⟩ <;> simp [execOp, ho, ev_sound hf hs]
  · cases h

def popPick (l : L) (c x y : Operand) (K : SV → Prop) : Option Prop := match ev l c with
  | some .tt => popMove l x K
  | some .ff => popMove l y K
  | some (.v (.bool b)) => match ev l x, ev l y with
    | some s, some t => some ((b = true → K s) ∧ (b = false → K t))
    | _, _ => none
  | _ => none
theorem popPick_sound (hf : Fr N a l) {c x y : Operand} (h : popPick l c x y K = some X) (hx : X) : ∃ s, K s ∧ Leaves P a (.pick c x y) s := by
  unfold popPick at h
  split at h
  · rename_i hc
    unfold popMove at h
    split at h
    · rename_i s hs
      cases h
      exact ⟨s, hx, fun w o ho => by simp [execOp, ho, ev_sound hf hs, ev_sound hf hc, SV.val, asBool]⟩
    · cases h
  · rename_i hc
    unfold popMove at h
    split at h
    · rename_i s hs
      cases h
      exact ⟨s, hx, fun w o ho => by simp [execOp, ho, ev_sound hf hs, ev_sound hf hc, SV.val, asBool]⟩
    · cases h
  · rename_i b hc
    split at h
    · rename_i s t hs ht
      cases h
      cases b
      · exact ⟨t, hx.2 rfl, fun w o ho => by simp [execOp, ho, ev_sound hf ht, ev_sound hf hc, SV.val, asBool]⟩
      · exact ⟨s, hx.1 rfl, fun w o ho => by simp [execOp, ho, ev_sound hf hs, ev_sound hf hc, SV.val, asBool]⟩
    · cases h
  · cases h

/-! #### nil checks, signs -/
def popNil (l : L) (x : Operand) (K : SV → Prop) : Option Prop := match ev l x with
  | some (.v (.pointer (some p))) => some (K (.v (.pointer (some p))))
  | some (.v (.func (.func f) u v)) => some (K (.v (.func (.func f) u v)))
  | _ => none
theorem popNil_sound (hf : Fr N a l) {x : Operand} (h : popNil l x K = some X) (hx : X) : ∃ s, K s ∧ Leaves P a (.nilCheck x) s := by
  unfold popNil at h
  split at h
  · rename_i p hs
    cases h
    exact ⟨_, hx, fun w o ho => by simp [execOp, ho, ev_sound hf hs, SV.val]⟩
  · rename_i f u v hs
    cases h
    exact ⟨_, hx, fun w o ho => by simp [execOp, ho, ev_sound hf hs, SV.val]⟩
  · cases h

def popUn (l : L) (op : UnOp) (x : Operand) (K : SV → Prop) : Option Prop := match op, ev l x with
  | .not, some .tt => some (K .ff)
  | .not, some .ff => some (K .tt)
  | .not, some (.v (.bool b)) => some (K (.v (.bool (!b))))
  | .neg, some (.v (.int k n)) => some (∃ z, z = k.wrap (0 - n) ∧ K (.v (.int k z)))
  | _, _ => none
theorem popUn_sound (hf : Fr N a l) {op : UnOp} {t : TypeId} {x : Operand} (h : popUn l op x K = some X) (hx : X) : ∃ s, K s ∧ Leaves P a (.unOp op t x) s := by
  unfold popUn at h
  split at h
  · rename_i hs; cases h; exact ⟨_, hx, fun w o ho => by simp [execOp, ho, ev_sound hf hs, SV.val, Op.unary]⟩
  · rename_i hs; cases h; exact ⟨_, hx, fun w o ho => by simp [execOp, ho, ev_sound hf hs, SV.val, Op.unary]⟩
  · rename_i hs; cases h; exact ⟨_, hx, fun w o ho => by simp [execOp, ho, ev_sound hf hs, SV.val, Op.unary]⟩
  · rename_i hs; cases h
    obtain ⟨z, rfl, hk⟩ := hx
    exact ⟨_, hk, fun w o ho => by simp [execOp, ho, ev_sound hf hs, SV.val, Op.unary, Op.intArith]⟩
  · cases h

/-! #### two operands -/
def ptrEq (op : BinOp) (same : Bool) (K : SV → Prop) : Option Prop := match op, same with
  | .eql, true => some (K .tt)
  | .eql, false => some (K .ff)
  | .neq, true => some (K .ff)
  | .neq, false => some (K .tt)
  | _, _ => none

def popBin2 (tab : Tab) (op : BinOp) (t : TypeId) (x y : Value) (K : SV → Prop) : Option Prop := match x, y with
  | .pointer none, .pointer none => match kindIs tab t with
    | some (.ptr _) => ptrEq op true K
    | _ => none
  | .pointer (some _), .pointer none => match kindIs tab t with
    | some (.ptr _) => ptrEq op false K
    | _ => none
  | .bool p, .bool q => match kindIs tab t, op with
    | some .bool, .eql => some (K (.v (.bool (p == q))))
    | some .bool, .neq => some (K (.v (.bool (!(p == q)))))
    | _, _ => none
  | .slice q _ _, .slice none 0 0 => match kindIs tab t, op with
    | some (.slice _), .eql => some (K (.v (.bool q.isNone)))
    | some (.slice _), .neq => some (K (.v (.bool (!q.isNone))))
    | _, _ => none
  | x, y => vbin op x y K

theorem kind_spec (ht : TabOk P tab) {t : Nat} {k : TK} (h : kindIs tab t = some k) : ∃ d, P.underlying t = some d ∧ k.ok d := by
  unfold kindIs at h
  split at h
  · rename_i i hi
    cases h
    exact (ht t i hi).desc
  · cases h

theorem equalIn_bool (d : Nat) {t : TypeId} (hd : P.underlying t = some .bool) (p q : Bool) (w : World) : (Op.equalIn (d + 1) t (.bool p) (.bool q)).run P w = .ok (p == q) w := by
  simp [Op.equalIn, run_underlying' hd]

theorem run_equal_slice_nil' {t e : TypeId} {a : Option Addr} {l c : Nat} (h : P.underlying t = some (.slice e)) (w : World) : (Op.equal t (.slice a l c) (.slice none 0 0)).run P w = .ok a.isNone w := by
  have : ∀ d, (Op.equalIn (d + 1) t (.slice a l c) (.slice none 0 0)).run P w = .ok a.isNone w := fun d => by cases a <;> simp [Op.equalIn, run_underlying' h]
  exact this 9999

theorem popBin2_sound (ht : TabOk P tab) {op : BinOp} {t : TypeId} {x y : Value} (h : popBin2 tab op t x y K = some X) (hx : X) :
    ∃ s, K s ∧ ∀ (p q : Operand) (w : World), (binRun op t p q x y).run P w = .ok s.val w := by
  have ptr : ∀ {e : TypeId} (q : Option Addr) (same : Bool), kindIs tab t = some (.ptr e) → q.isNone = same → ptrEq op same K = some X → ∃ s, K s ∧ ∀ (p p' : Operand) (w : World), (binRun op t p p' (.pointer q) (.pointer none)).run P w = .ok s.val w := by
    intro e q same hk hq he
    obtain ⟨d, hd, k⟩ := kind_spec ht hk
    simp only [TK.ok] at k
    subst k
    have hp : P.underlying t = some (.pointer (P.pointee t)) := by rw [hd]; simp [Program.pointee, hd]
    unfold ptrEq at he
    split at he <;> cases he <;> refine ⟨_, hx, fun p p' w => ?_⟩ <;> simp [binRun, eqGuard_pointer, run_eql_pointer_nil _ _ _ hp, run_neq_pointer_nil _ _ _ hp, SV.val, hq]
  unfold popBin2 at h
  split at h
  · split at h
    · rename_i e hk
      exact ptr none true hk rfl h
    · cases h
  · rename_i q
    split at h
    · rename_i e hk
      exact ptr (some q) false hk rfl h
    · cases h
  · rename_i p q
    split at h
    · rename_i hk
      obtain ⟨d, hd, k⟩ := kind_spec ht hk
      simp only [TK.ok] at k
      subst k
      cases h
      refine ⟨_, hx, fun p' q' w => ?_⟩
      have : (Op.equal t (.bool p) (.bool q)).run P w = .ok (p == q) w := equalIn_bool 9999 hd p q w
      simp [binRun, eqGuard_bool, binOp, this, SV.val]
    · rename_i hk
      obtain ⟨d, hd, k⟩ := kind_spec ht hk
      simp only [TK.ok] at k
      subst k
      cases h
      refine ⟨_, hx, fun p' q' w => ?_⟩
      have : (Op.equal t (.bool p) (.bool q)).run P w = .ok (p == q) w := equalIn_bool 9999 hd p q w
      simp [binRun, eqGuard_bool, binOp, this, SV.val]
    · cases h
  · rename_i q n c
    split at h
    · rename_i e hk
      obtain ⟨d, hd, k⟩ := kind_spec ht hk
      simp only [TK.ok] at k
      subst k
      cases h
      refine ⟨_, hx, fun p' q' w => ?_⟩
      have : (Op.equal t (.slice q n c) (.slice none 0 0)).run P w = .ok q.isNone w := run_equal_slice_nil' hd w
      simp only [binRun, Sem.run_bind, eqGuard_func P w .eql t p' q' (.slice q n c) (by simp) (by simp) (.slice none 0 0), Result.andThen_ok, binOp, this, Sem.run_pure, SV.val]
    · rename_i e hk
      obtain ⟨d, hd, k⟩ := kind_spec ht hk
      simp only [TK.ok] at k
      subst k
      cases h
      refine ⟨_, hx, fun p' q' w => ?_⟩
      have : (Op.equal t (.slice q n c) (.slice none 0 0)).run P w = .ok q.isNone w := run_equal_slice_nil' hd w
      simp only [binRun, Sem.run_bind, eqGuard_func P w .neq t p' q' (.slice q n c) (by simp) (by simp) (.slice none 0 0), Result.andThen_ok, binOp, this, Sem.run_pure, SV.val]
    · cases h
  · obtain ⟨s, h1, h2⟩ := vbin_sound (P := P) h hx
    exact ⟨s, h1, fun p q w => h2 t p q w⟩

def popBin (tab : Tab) (l : L) (op : BinOp) (t : TypeId) (x y : Operand) (K : SV → Prop) : Option Prop := match ev l x, ev l y with
  | some s, some u => popBin2 tab op t s.val u.val K
  | _, _ => none
theorem popBin_sound (ht : TabOk P tab) (hf : Fr N a l) {op : BinOp} {t u : TypeId} {x y : Operand} (h : popBin tab l op t x y K = some X) (hx : X) : ∃ s, K s ∧ Leaves P a (.binOp op t x y u) s := by
  unfold popBin at h
  split at h
  · rename_i s v hs hv
    obtain ⟨r, hr, hrun⟩ := popBin2_sound ht h hx
    refine ⟨r, hr, fun w o ho => ?_⟩
    have := hrun x y w
    simp only [binRun] at this
    simp only [execOp, ho, ev_sound hf hs, ev_sound hf hv]
    rw [Sem.run_bind, this]
    rfl
  · cases h

/-! #### addresses -/
def popFieldAddr (tab : Tab) (l : L) (t : TypeId) (x : Operand) (f : Nat) (K : SV → Prop) : Option Prop := match kindIs tab t with
  | some (.struct fs) => match nth fs f with
    | some (off, ft) => match tlook tab ft with
      | some i => match Nat.beq i.size 0 with
        | true => none
        | false => match ev l x with
          | some (.v (.pointer (some p))) => some (K (.v (.pointer (some (addA p off)))))
          | _ => none
      | none => none
    | none => none
  | _ => none

theorem struct_field (ht : TabOk P tab) {t : Nat} {fs : List (Nat × TypeId)} (h : kindIs tab t = some (.struct fs)) {f off : Nat} {ft : TypeId} (hn : nth fs f = some (off, ft)) :
    ∃ (fields : Array Field) (fl : Field), P.underlying t = some (.struct fields) ∧ fields[f]? = some fl ∧ fl.offset = off ∧ fl.type = ft := by
  obtain ⟨d, hd, fields, rfl, hfs⟩ := kind_spec ht h
  rw [nth_eq, ← hfs, List.getElem?_map] at hn
  obtain ⟨fl, h1, h2⟩ := Option.map_eq_some_iff.1 hn
  simp only [Prod.mk.injEq] at h2
  exact ⟨fields, fl, hd, by simpa using h1, h2.1, h2.2⟩

theorem popFieldAddr_sound (ht : TabOk P tab) (hf : Fr N a l) {t : TypeId} {x : Operand} {f : Nat} (h : popFieldAddr tab l t x f K = some X) (hx : X) : ∃ s, K s ∧ Leaves P a (.fieldAddr t x f) s := by
  unfold popFieldAddr at h
  split at h <;> try (cases h; done)
  rename_i fs hk
  split at h <;> try (cases h; done)
  rename_i off ft hn
  split at h <;> try (cases h; done)
  rename_i i hi
  split at h <;> try (cases h; done)
  rename_i hz
  split at h <;> try (cases h; done)
  rename_i p hp
  cases h
  obtain ⟨fields, fl, h1, h2, h3, h4⟩ := struct_field ht hk hn
  have hsz := (ht _ _ hi)
  refine ⟨_, hx, fun w o ho => ?_⟩
  have hz' : i.size ≠ 0 := Nat.ne_of_beq_eq_false hz
  subst h3 h4
  simp [execOp, ho, ev_sound hf hp, SV.val, Instr.fieldAt, run_underlying' h1, h2, Instr.sureAddr, fieldPlace, hsz.run_size, hz', addA_eq]

def popIndexAddr (tab : Tab) (l : L) (t : TypeId) (x ix : Operand) (K : SV → Prop) : Option Prop := match kindIs tab t with
  | some (.slice e) => match tlook tab e with
    | some i => match ev l x, ev l ix with
      | some (.v (.slice (some p) len cap)), some (.v (.int k n)) => some ((0 ≤ n ∧ n < (len : Int)) ∧ K (.v (.pointer (some (addA p (n.toNat * i.size))))))
      | _, _ => none
    | none => none
  | some (.array m e) => match tlook tab e with
    | some i => match ev l x, ev l ix with
      | some (.v (.pointer (some p))), some (.v (.int k n)) => some ((0 ≤ n ∧ n < (m : Int)) ∧ K (.v (.pointer (some (addA p (n.toNat * i.size))))))
      | _, _ => none
    | none => none
  | _ => none

theorem popIndexAddr_sound (ht : TabOk P tab) (hf : Fr N a l) {t : TypeId} {x ix : Operand} (h : popIndexAddr tab l t x ix K = some X) (hx : X) : ∃ s, K s ∧ Leaves P a (.indexAddr t x ix) s := by
  unfold popIndexAddr at h
  split at h
  · rename_i e hk
    split at h <;> try (cases h; done)
    rename_i i hi
    split at h <;> try (cases h; done)
    rename_i p len cap k n hp hn
    cases h
    obtain ⟨hb, hx⟩ := hx
    obtain ⟨d, hd, hk'⟩ := kind_spec ht hk
    simp only [TK.ok] at hk'
    subst hk'
    refine ⟨_, hx, fun w o ho => ?_⟩
    simp [execOp, ho, ev_sound hf hp, ev_sound hf hn, SV.val, Instr.indexAt, asIntOf, run_underlying' hd, hb, (ht _ _ hi).run_size, addA_eq]
  · rename_i m e hk
    split at h <;> try (cases h; done)
    rename_i i hi
    split at h <;> try (cases h; done)
    rename_i p k n hp hn
    cases h
    obtain ⟨hb, hx⟩ := hx
    obtain ⟨d, hd, hk'⟩ := kind_spec ht hk
    simp only [TK.ok] at hk'
    subst hk'
    refine ⟨_, hx, fun w o ho => ?_⟩
    simp [execOp, ho, ev_sound hf hp, ev_sound hf hn, SV.val, Instr.indexAt, asIntOf, run_underlying' hd, hb, (ht _ _ hi).run_size, addA_eq, Instr.sureAddr]
  · cases h

/-! #### parts of values -/
def partL (i : TyI) (cs : List Value) (off : Nat) : Option Value := match dropN off cs with
  | some r => match takeN i.size r with
    | some vs => match i.kind.agg with
      | true => some (.agg vs.toArray)
      | false => match vs with
        | [v] => some v
        | _ => none
    | none => none
  | none => none

theorem partL_sound (ht : TabOk P tab) {t : Nat} {i : TyI} (hi : tlook tab t = some i) {cs : Array Value} {off : Nat} {v : Value} (h : partL i cs.toList off = some v) (w : World) :
    (part t cs off).run P w = .ok v w := by
  unfold partL at h
  split at h <;> try (cases h; done)
  rename_i r hr
  split at h <;> try (cases h; done)
  rename_i vs hvs
  obtain ⟨h1, h2⟩ := dropN_spec hr
  obtain ⟨h3, h4⟩ := takeN_spec hvs
  have hok := ht t i hi
  split at h
  · rename_i ha
    cases h
    simp only [part, Sem.run_bind, hok.run_agg, Result.andThen_ok, ha, if_true, hok.run_size, Sem.run_pure]
    congr 2
    rw [h4, h2]
    apply Array.toList_inj.1
    simp
  · rename_i ha
    split at h <;> try (cases h; done)
    rename_i v' 
    cases h
    simp only [part, Sem.run_bind, hok.run_agg, Result.andThen_ok, ha]
    have hv : cs[off]? = some v := by
      have : (cs.toList.drop off)[0]? = some v := by
        have h5 : (List.take i.size r)[0]? = some v := by rw [← h4]; rfl
        rw [List.getElem?_take] at h5
        split at h5
        · rw [h2] at h5; exact h5
        · cases h5
      simpa using this
    simp [hv]

def popField (tab : Tab) (l : L) (t : TypeId) (x : Operand) (f : Nat) (K : SV → Prop) : Option Prop := match kindIs tab t with
  | some (.struct fs) => match nth fs f with
    | some (off, ft) => match tlook tab ft with
      | some i => match ev l x with
        | some (.v (.agg cs)) => match partL i cs.toList off with
          | some v => some (K (.v v))
          | none => none
        | _ => none
      | none => none
    | none => none
  | _ => none
theorem popField_sound (ht : TabOk P tab) (hf : Fr N a l) {t : TypeId} {x : Operand} {f : Nat} (h : popField tab l t x f K = some X) (hx : X) : ∃ s, K s ∧ Leaves P a (.field t x f) s := by
  unfold popField at h
  split at h <;> try (cases h; done)
  rename_i fs hk
  split at h <;> try (cases h; done)
  rename_i off ft hn
  split at h <;> try (cases h; done)
  rename_i i hi
  split at h <;> try (cases h; done)
  rename_i cs hp
  split at h <;> try (cases h; done)
  rename_i v hv
  cases h
  obtain ⟨fields, fl, h1, h2, h3, h4⟩ := struct_field ht hk hn
  refine ⟨_, hx, fun w o ho => ?_⟩
  subst h3 h4
  simp [execOp, ho, ev_sound hf hp, SV.val, Instr.field, run_underlying' h1, h2, asAgg, partL_sound ht hi hv]

def popExtract (l : L) (x : Operand) (n : Nat) (K : SV → Prop) : Option Prop := match ev l x with
  | some (.v (.tuple vs)) => match nth vs.toList n with
    | some v => some (K (.v v))
    | none => none
  | _ => none
theorem popExtract_sound (hf : Fr N a l) {x : Operand} {n : Nat} (h : popExtract l x n K = some X) (hx : X) : ∃ s, K s ∧ Leaves P a (.extract x n) s := by
  unfold popExtract at h
  split at h <;> try (cases h; done)
  rename_i vs hp
  split at h <;> try (cases h; done)
  rename_i v hv
  cases h
  rw [nth_eq] at hv
  have hv' : vs[n]? = some v := by simpa using hv
  exact ⟨_, hx, fun w o ho => by simp [execOp, ho, ev_sound hf hp, SV.val, Instr.extract, hv']⟩

def placesL (tab : Tab) : List (Nat × TypeId) → Option (List (Nat × Nat))
  | [] => some []
  | (off, ft) :: r => match tlook tab ft with
    | some i => match placesL tab r with
      | some ps => some ((off, i.size) :: ps)
      | none => none
    | none => none

theorem placesL_sound (ht : TabOk P tab) : ∀ (fs : List Field) (ps : List (Nat × Nat)), placesL tab (fs.map fun f => (f.offset, f.type)) = some ps →
    fs.mapM (fun f => (P.info? f.type).map fun i => (f.offset, i.size)) = some ps
  | [], ps, h => by simp only [List.map_nil, placesL] at h; cases h; rfl
  | f :: r, ps, h => by
    simp only [List.map_cons, placesL] at h
    split at h <;> try (cases h; done)
    rename_i i hi
    split at h <;> try (cases h; done)
    rename_i ps' hps
    cases h
    obtain ⟨x, hx, e⟩ := Option.map_eq_some_iff.1 (ht _ _ hi).info
    simp only [Prod.mk.injEq] at e
    simp [List.mapM_cons, hx, placesL_sound ht r ps' hps, e.1]

def popBuild (tab : Tab) (l : L) (t : TypeId) (ps : List (Nat × Operand)) (K : SV → Prop) : Option Prop := match tlook tab t, evp l ps with
  | some i, some vs => match i.kind with
    | .struct fs => match placesL tab fs with
      | some places => match fillL (nth places) i.zero.cells.toList vs with
        | some cs => some (K (.v (.agg cs.toArray)))
        | none => none
      | none => none
    | .array n e => match tlook tab e with
      | some ei => match fillL (fun j => some (j * ei.size, ei.size)) i.zero.cells.toList vs with
        | some cs => some (K (.v (.agg cs.toArray)))
        | none => none
      | none => none
    | _ => none
  | _, _ => none

theorem parts_map {a : Act} (ps : Array (Nat × Operand)) : (ps.map fun (x : Nat × Operand) => (x.1, a.eval x.2)).toList = ps.toList.map fun p => (p.1, a.eval p.2) := by simp

theorem popBuild_sound (ht : TabOk P tab) (hf : Fr N a l) {t : TypeId} {ps : Array (Nat × Operand)} (h : popBuild tab l t ps.toList K = some X) (hx : X) : ∃ s, K s ∧ Leaves P a (.build t ps) s := by
  unfold popBuild at h
  split at h <;> try (cases h; done)
  rename_i i vs hi hvs
  have hok := ht t i hi
  have hmap : (ps.toList.map fun (x : Nat × Operand) => (x.1, a.eval x.2)) = vs := evp_sound hf hvs
  split at h
  · rename_i fs hk
    split at h <;> try (cases h; done)
    rename_i places hp
    split at h <;> try (cases h; done)
    rename_i cs hcs
    cases h
    obtain ⟨d, hd, k⟩ := hok.desc
    rw [hk] at k
    obtain ⟨fields, rfl, hfs⟩ := k
    rw [← hfs] at hp
    have hpl := placesL_sound ht _ _ hp
    refine ⟨_, hx, fun w o ho => ?_⟩
    have hfill := fillL_sound _ vs _ _ hcs
    simp only [Array.toArray_toList] at hfill
    have hfill' : Instr.fill (fun x => places[x]?) i.zero.cells vs = some cs.toArray := by
      have : (fun x => places[x]?) = nth places := funext fun x => (nth_eq places x).symm
      rw [this]; exact hfill
    simp only [execOp, ho]
    simp [Instr.build, hok.run_zero, run_underlying' hd, Array.mapM_eq_mapM_toList, run_places w _ _ hpl, hmap, hfill', SV.val]
  · rename_i n e hk
    split at h <;> try (cases h; done)
    rename_i ei hei
    split at h <;> try (cases h; done)
    rename_i cs hcs
    cases h
    obtain ⟨d, hd, k⟩ := hok.desc
    rw [hk] at k
    simp only [TK.ok] at k
    subst k
    refine ⟨_, hx, fun w o ho => ?_⟩
    have hfill := fillL_sound _ vs _ _ hcs
    simp only [Array.toArray_toList] at hfill
    simp only [execOp, ho]
    simp [Instr.build, hok.run_zero, run_underlying' hd, (ht _ _ hei).run_size, hmap, hfill, SV.val]
  · cases h

/-! #### kinds of numbers, lengths, the rest -/
def popConv (tab : Tab) (l : L) (src dst : TypeId) (x : Operand) (K : SV → Prop) : Option Prop := match kindIs tab src, kindIs tab dst, ev l x with
  | some (.int _), some (.int k), some (.v (.int _ n)) => some (∃ z, z = k.wrap n ∧ K (.v (.int k z)))
  | some .str, some .str, some (.v (.string s)) => some (K (.v (.string s)))
  | _, _, _ => none
theorem popConv_sound (ht : TabOk P tab) (hf : Fr N a l) {src dst : TypeId} {x : Operand} (h : popConv tab l src dst x K = some X) (hx : X) : ∃ s, K s ∧ Leaves P a (.convert src dst x) s := by
  unfold popConv at h
  split at h
  · rename_i k0 k k1 n h1 h2 h3
    cases h
    obtain ⟨d1, hd1, e1⟩ := kind_spec ht h1
    obtain ⟨d2, hd2, e2⟩ := kind_spec ht h2
    simp only [TK.ok] at e1 e2
    subst e1 e2
    obtain ⟨z, rfl, hk⟩ := hx
    exact ⟨_, hk, fun w o ho => by simp [execOp, ho, ev_sound hf h3, SV.val, convert, run_underlying' hd1, run_underlying' hd2, Conv.intToInt]⟩
  · rename_i s h1 h2 h3
    cases h
    obtain ⟨d1, hd1, e1⟩ := kind_spec ht h1
    obtain ⟨d2, hd2, e2⟩ := kind_spec ht h2
    simp only [TK.ok] at e1 e2
    subst e1 e2
    exact ⟨_, hx, fun w o ho => by simp [execOp, ho, ev_sound hf h3, SV.val, convert, run_underlying' hd1, run_underlying' hd2]⟩
  · cases h

def popFunc (l : L) (fn : Fn) (first captured : List Operand) (K : SV → Prop) : Option Prop := match evs l first, evs l captured with
  | some u, some v => some (K (.v (.func fn u.toArray v.toArray)))
  | _, _ => none
theorem evs_map {hf : Fr N a l} {xs : Array Operand} {vs : List Value} (e : evs l xs.toList = some vs) : xs.map a.eval = vs.toArray := by
  apply Array.toList_inj.1
  simp [evs_sound hf e]
theorem popFunc_sound (hf : Fr N a l) {fn : Fn} {first captured : Array Operand} (h : popFunc l fn first.toList captured.toList K = some X) (hx : X) : ∃ s, K s ∧ Leaves P a (.makeFunc fn first captured) s := by
  unfold popFunc at h
  split at h <;> try (cases h; done)
  rename_i u v hu hv
  cases h
  exact ⟨_, hx, fun w o ho => by simp [execOp, ho, SV.val, Instr.makeFunc, evs_map (hf := hf) hu, evs_map (hf := hf) hv]⟩

def popLen (tab : Tab) (l : L) (t : TypeId) (x : Operand) (K : SV → Prop) : Option Prop := match kindIs tab t with
  | some (.slice _) => match ev l x with
    | some (.v (.slice _ n _)) => some (K (.v (.int .i64 n)))
    | _ => none
  | some .str => match ev l x with
    | some (.v (.string s)) => some (K (.v (.int .i64 s.size)))
    | _ => none
  | some (.array n _) => match ev l x with
    | some _ => some (K (.v (.int .i64 n)))
    | none => none
  | _ => none
theorem popLen_sound (ht : TabOk P tab) (hf : Fr N a l) {t : TypeId} {x : Operand} (h : popLen tab l t x K = some X) (hx : X) : ∃ s, K s ∧ Leaves P a (.call { callee := .builtin .len, args := #[x], argTypes := #[t] }) s := by
  unfold popLen at h
  split at h
  · rename_i e hk
    split at h <;> try (cases h; done)
    rename_i b n c hv
    cases h
    obtain ⟨d, hd, k⟩ := kind_spec ht hk
    simp only [TK.ok] at k; subst k
    exact ⟨_, hx, fun w o ho => by simp [execOp, ho, ev_sound hf hv, SV.val, resolve, invoke, builtin, Builtin.len_, run_underlying' hd, goInt]⟩
  · rename_i hk
    split at h <;> try (cases h; done)
    rename_i s hv
    cases h
    obtain ⟨d, hd, k⟩ := kind_spec ht hk
    simp only [TK.ok] at k; subst k
    exact ⟨_, hx, fun w o ho => by simp [execOp, ho, ev_sound hf hv, SV.val, resolve, invoke, builtin, Builtin.len_, run_underlying' hd, goInt]⟩
  · rename_i n e hk
    split at h <;> try (cases h; done)
    rename_i s hv
    cases h
    obtain ⟨d, hd, k⟩ := kind_spec ht hk
    simp only [TK.ok] at k; subst k
    exact ⟨_, hx, fun w o ho => by simp [execOp, ho, ev_sound hf hv, SV.val, resolve, invoke, builtin, Builtin.len_, run_underlying' hd, goInt]⟩
  · cases h

def popMinMax (l : L) (b : Builtin) (x y : Operand) (K : SV → Prop) : Option Prop := match b, ev l x, ev l y with
  | .min, some (.v (.int k p)), some (.v (.int _ q)) => some (K (.v (.int k (if q < p then q else p))))
  | .max, some (.v (.int k p)), some (.v (.int _ q)) => some (K (.v (.int k (if q > p then q else p))))
  | _, _, _ => none
theorem popMinMax_sound (hf : Fr N a l) {b : Builtin} {ts : Array TypeId} {x y : Operand} (h : popMinMax l b x y K = some X) (hx : X) : ∃ s, K s ∧ Leaves P a (.call { callee := .builtin b, args := #[x, y], argTypes := ts }) s := by
  unfold popMinMax at h
  split at h
  · rename_i k p k' q h1 h2
    cases h
    exact ⟨_, hx, fun w o ho => by simp [execOp, ho, ev_sound hf h1, ev_sound hf h2, SV.val, resolve, invoke, builtin, Builtin.min_, Builtin.min2]⟩
  · rename_i k p k' q h1 h2
    cases h
    exact ⟨_, hx, fun w o ho => by simp [execOp, ho, ev_sound hf h1, ev_sound hf h2, SV.val, resolve, invoke, builtin, Builtin.max_, Builtin.max2]⟩
  · cases h

/-! #### slicing -/
def slA (p : Option Addr) (m l k : Nat) : Option Addr := if m = l then p else p.map (·.add (l * k))
/-- 'x[lo:hi]', 'x[lo:hi:mx]' of a slice; an array's address whole. -/
def popSlice (tab : Tab) (l : L) (t : TypeId) (x : Operand) (lo hi mx : Option Operand) (K : SV → Prop) : Option Prop := match kindIs tab t with
  | some (.slice e) => match tlook tab e, ev l x with
    | some i, some (.v (.slice p len cap)) => match lo, hi, mx with
      | none, none, none => some (K (.v (.slice p len cap)))
      | some lo, none, none => match ev l lo with
        | some (.v (.int _ n)) => some ((0 ≤ n ∧ n ≤ (len : Int)) ∧ K (.v (.slice (slA p cap n.toNat i.size) (len - n.toNat) (cap - n.toNat))))
        | _ => none
      | none, some hi, none => match ev l hi with
        | some (.v (.int _ n)) => some ((0 ≤ n ∧ n ≤ (cap : Int)) ∧ K (.v (.slice p n.toNat cap)))
        | _ => none
      | some lo, some hi, none => match ev l lo, ev l hi with
        | some (.v (.int _ m)), some (.v (.int _ n)) => some ((0 ≤ m ∧ m ≤ n ∧ n ≤ (cap : Int)) ∧ K (.v (.slice (slA p cap m.toNat i.size) (n.toNat - m.toNat) (cap - m.toNat))))
        | _, _ => none
      | none, some hi, some mx => match ev l hi, ev l mx with
        | some (.v (.int _ n)), some (.v (.int _ c)) => some ((0 ≤ n ∧ n ≤ c ∧ c ≤ (cap : Int)) ∧ K (.v (.slice p n.toNat c.toNat)))
        | _, _ => none
      | _, _, _ => none
    | _, _ => none
  | some (.array n e) => match tlook tab e, ev l x, lo, hi, mx with
    | some _, some (.v (.pointer (some p))), none, none, none => some (K (.v (.slice (some p) n n)))
    | _, _, _, _, _ => none
  | _ => none

theorem map_add_zero (p : Option Addr) : p.map (fun x => x.add 0) = p := by
  cases p <;> simp [Addr.add]

theorem popSlice_sound (ht : TabOk P tab) (hf : Fr N a l) {t : TypeId} {x : Operand} {lo hi mx : Option Operand} (h : popSlice tab l t x lo hi mx K = some X) (hx : X) : ∃ s, K s ∧ Leaves P a (.slice t x lo hi mx) s := by
  unfold popSlice at h
  split at h
  · rename_i e hk
    split at h <;> try (cases h; done)
    rename_i i p len cap hi' hp
    obtain ⟨d, hd, k⟩ := kind_spec ht hk
    simp only [TK.ok] at k; subst k
    have hsz : ∀ w, (sizeOf e).run P w = .ok i.size w := fun w => (ht _ _ hi').run_size
    have hu : ∀ w, (underlying t).run P w = .ok (.slice e) w := fun w => run_underlying' hd
    split at h
    · cases h
      exact ⟨_, hx, fun w o ho => by simp [execOp, ho, ev_sound hf hp, SV.val, Instr.sliceAt, Instr.slice, hu, Instr.sliceBounds, hsz, map_add_zero]⟩
    · split at h <;> try (cases h; done)
      rename_i k n hn
      cases h
      obtain ⟨⟨h0, h1⟩, hx⟩ := hx
      exact ⟨_, hx, fun w o ho => by simp [execOp, ho, ev_sound hf hp, ev_sound hf hn, SV.val, Instr.sliceAt, Instr.slice, hu, Instr.sliceBounds, run_sliceBound, h0, h1, hsz, slA]⟩
    · split at h <;> try (cases h; done)
      rename_i k n hn
      cases h
      obtain ⟨⟨h0, h1⟩, hx⟩ := hx
      exact ⟨_, hx, fun w o ho => by simp [execOp, ho, ev_sound hf hp, ev_sound hf hn, SV.val, Instr.sliceAt, Instr.slice, hu, Instr.sliceBounds, run_sliceBound, h0, h1, hsz, map_add_zero]⟩
    · split at h <;> try (cases h; done)
      rename_i k m k' n hm hn
      cases h
      obtain ⟨⟨h0, h1, h2⟩, hx⟩ := hx
      have h3 : 0 ≤ n := by omega
      have h4 : m ≤ (n.toNat : Int) := by omega
      have hb : ∀ w code, (Instr.sliceBound (.int k m) n.toNat code).run P w = .ok m.toNat w := fun w code => run_sliceBound w k m n.toNat code h0 h4
      exact ⟨_, hx, fun w o ho => by simp [execOp, ho, ev_sound hf hp, ev_sound hf hm, ev_sound hf hn, SV.val, Instr.sliceAt, Instr.slice, hu, Instr.sliceBounds, run_sliceBound, hb, h2, h3, hsz, slA]⟩
    · split at h <;> try (cases h; done)
      rename_i k n k' c hn hc
      cases h
      obtain ⟨⟨h0, h1, h2⟩, hx⟩ := hx
      have h3 : 0 ≤ c := by omega
      have h4 : n ≤ (c.toNat : Int) := by omega
      have hb : ∀ w code, (Instr.sliceBound (.int k n) c.toNat code).run P w = .ok n.toNat w := fun w code => run_sliceBound w k n c.toNat code h0 h4
      exact ⟨_, hx, fun w o ho => by simp [execOp, ho, ev_sound hf hp, ev_sound hf hn, ev_sound hf hc, SV.val, Instr.sliceAt, Instr.slice, hu, Instr.sliceBounds, run_sliceBound, hb, h2, h3, hsz, map_add_zero]⟩
    · cases h
  · rename_i n e hk
    split at h <;> try (cases h; done)
    rename_i i p hi' hp
    cases h
    obtain ⟨d, hd, k⟩ := kind_spec ht hk
    simp only [TK.ok] at k; subst k
    refine ⟨_, hx, fun w o ho => ?_⟩
    have hsz := (ht _ _ hi').run_size (w := w)
    have hpz : p.add 0 = p := by simp [Addr.add]
    simp [execOp, ho, ev_sound hf hp, SV.val, Instr.sliceAt, run_underlying' hd, Instr.sureAddr, Instr.sliceBounds, hsz, hpz]
  · cases h

/-- A part of an array; a byte of a text. -/
def popIndex (tab : Tab) (l : L) (t : TypeId) (x ix : Operand) (K : SV → Prop) : Option Prop := match kindIs tab t with
  | some (.array m e) => match tlook tab e, ev l x, ev l ix with
    | some i, some (.v (.agg cs)), some (.v (.int _ n)) => some ((0 ≤ n ∧ n < (m : Int)) ∧ ∃ v, partL i cs.toList (n.toNat * i.size) = some v ∧ K (.v v))
    | _, _, _ => none
  | some .str => match ev l x, ev l ix with
    | some (.v (.string s)), some (.v (.int _ n)) => some (0 ≤ n ∧ ∃ b, s[n.toNat]? = some b ∧ K (.v (.int .u8 b.toNat)))
    | _, _ => none
  | _ => none
theorem popIndex_sound (ht : TabOk P tab) (hf : Fr N a l) {t : TypeId} {x ix : Operand} (h : popIndex tab l t x ix K = some X) (hx : X) : ∃ s, K s ∧ Leaves P a (.index t x ix) s := by
  unfold popIndex at h
  split at h
  · rename_i m e hk
    split at h <;> try (cases h; done)
    rename_i i cs k n hi hp hn
    cases h
    obtain ⟨hb, v, hv, hx⟩ := hx
    obtain ⟨d, hd, hk'⟩ := kind_spec ht hk
    simp only [TK.ok] at hk'
    subst hk'
    refine ⟨_, hx, fun w o ho => ?_⟩
    have := partL_sound (P := P) ht hi hv w
    simp [execOp, ho, ev_sound hf hp, ev_sound hf hn, SV.val, Instr.index, asIntOf, run_underlying' hd, hb, (ht _ _ hi).run_size, this]
  · rename_i hk
    split at h <;> try (cases h; done)
    rename_i s k n hp hn
    cases h
    obtain ⟨hb, b, hv, hx⟩ := hx
    obtain ⟨d, hd, hk'⟩ := kind_spec ht hk
    simp only [TK.ok] at hk'
    subst hk'
    refine ⟨_, hx, fun w o ho => ?_⟩
    simp [execOp, ho, ev_sound hf hp, ev_sound hf hn, SV.val, Instr.index, asIntOf, run_underlying' hd, hb, hv]
  · cases h

/-! #### all of them -/
def pop (tab : Tab) (l : L) (op : Op) (K : SV → Prop) : Option Prop := match op with
  | .move x => popMove l x K
  | .assign x => popMove l x K
  | .pick c x y => popPick l c x y K
  | .nilCheck x => popNil l x K
  | .unOp op _ x => popUn l op x K
  | .binOp op t x y _ => popBin tab l op t x y K
  | .fieldAddr t x f => popFieldAddr tab l t x f K
  | .field t x f => popField tab l t x f K
  | .indexAddr t x i => popIndexAddr tab l t x i K
  | .index t x i => popIndex tab l t x i K
  | .extract x n => popExtract l x n K
  | .build t ps => popBuild tab l t ps.toList K
  | .convert s d x => popConv tab l s d x K
  | .makeFunc fn u v => popFunc l fn u.toList v.toList K
  | .slice t x lo hi mx => popSlice tab l t x lo hi mx K
  | .call c => match c.callee, c.args.toList, c.argTypes.toList with
    | .builtin .len, [x], [t] => popLen tab l t x K
    | .builtin .min, [x, y], _ => popMinMax l .min x y K
    | .builtin .max, [x, y], _ => popMinMax l .max x y K
    | _, _, _ => none
  | _ => none

theorem toArray_of {α : Type} {xs : Array α} {l : List α} (h : xs.toList = l) : xs = l.toArray := by rw [← h]

theorem pop_sound (ht : TabOk P tab) (hf : Fr N a l) {op : Op} (h : pop tab l op K = some X) (hx : X) : ∃ s, K s ∧ Leaves P a op s := by
  unfold pop at h
  split at h <;> try (cases h; done)
  · obtain ⟨s, h1, h2, _⟩ := popMove_sound (P := P) hf h hx; exact ⟨s, h1, h2⟩
  · obtain ⟨s, h1, _, h2⟩ := popMove_sound (P := P) hf h hx; exact ⟨s, h1, h2⟩
  · exact popPick_sound hf h hx
  · exact popNil_sound hf h hx
  · exact popUn_sound hf h hx
  · exact popBin_sound ht hf h hx
  · exact popFieldAddr_sound ht hf h hx
  · exact popField_sound ht hf h hx
  · exact popIndexAddr_sound ht hf h hx
  · exact popIndex_sound ht hf h hx
  · exact popExtract_sound hf h hx
  · exact popBuild_sound ht hf h hx
  · exact popConv_sound ht hf h hx
  · exact popFunc_sound hf h hx
  · exact popSlice_sound ht hf h hx
  · rename_i c
    obtain ⟨callee, args, argTypes⟩ := c
    split at h <;> try (cases h; done)
    · rename_i x t h1 h2 h3
      simp only at h1 h2 h3
      subst h1
      rw [toArray_of h2, toArray_of h3]
      exact popLen_sound ht hf h hx
    · rename_i x y h1 h2
      simp only at h1 h2
      subst h1
      rw [toArray_of h2]
      exact popMinMax_sound hf h hx
    · rename_i x y h1 h2
      simp only at h1 h2
      subst h1
      rw [toArray_of h2]
      exact popMinMax_sound hf h hx

end parts
end Go.RX

/- RX, part 5: what is left to show of a piece of code, by computation; and that it suffices. -/
set_option autoImplicit false
set_option linter.unusedVariables false
set_option linter.unusedSimpArgs false
namespace Go.RX
open Go

/-! ### memory -/
def findR (b : Nat) (E : Prop) : List Res → Nat → (Nat → TypeId → List Value → Prop) → Prop
  | [], _, _ => E
  | .blk b' T cs :: r, i, K => (b = b' ∧ K i T cs) ∨ findR b E r (i + 1) K
  | .hp _ :: r, i, K => findR b E r (i + 1) K

theorem findR_sound {b : Nat} {E : Prop} : ∀ {Rs : List Res} {i : Nat} {K : Nat → TypeId → List Value → Prop}, findR b E Rs i K → E ∨ ∃ j T cs, Rs[j]? = some (.blk b T cs) ∧ K (i + j) T cs
  | [], _, _, h => .inl h
  | .blk b' T cs :: r, i, K, h => by
    simp only [findR] at h
    rcases h with ⟨rfl, h⟩ | h
    · exact .inr ⟨0, T, cs, by simp, h⟩
    · rcases findR_sound h with h | ⟨j, T', cs', h1, h2⟩
      · exact .inl h
      · exact .inr ⟨j + 1, T', cs', by simpa using h1, by rw [Nat.add_comm j 1, ← Nat.add_assoc]; exact h2⟩
  | .hp _ :: r, i, K, h => by
    simp only [findR] at h
    rcases findR_sound h with h | ⟨j, T', cs', h1, h2⟩
    · exact .inl h
    · exact .inr ⟨j + 1, T', cs', by simpa using h1, by rw [Nat.add_comm j 1, ← Nat.add_assoc]; exact h2⟩

def vcLoad (tab : Tab) (Rs : List Res) (T : TypeId) (v : Option SV) (K : Value → Prop) (E : Prop) : Prop := match tlook tab T, v with
  | some i, some (.v (.pointer (some p))) => match p.spot with
    | none => findR p.block E Rs 0 fun _ _ cs => match partL i cs p.off with
      | some v => K v
      | none => False
    | some _ => E
  | _, _ => E

def vcStore (tab : Tab) (Rs : List Res) (T : TypeId) (v u : Option SV) (K : List Res → Prop) (E : Prop) : Prop := match tlook tab T, v, u with
  | some i, some (.v (.pointer (some p))), some u => match p.spot with
    | none => match Nat.beq u.val.cells.toList.length i.size with
      | true => findR p.block E Rs 0 fun j T' cs => match splice cs p.off u.val.cells.toList with
        | some cs' => allOne u.val.cells.toList = true ∧ K (Rs.set j (.blk p.block T' cs'))
        | none => False
      | false => E
    | some _ => E
  | _, _, _ => E

def repL : Nat → List Value → List Value
  | 0, _ => []
  | n + 1, z => z ++ repL n z

def setd (N : Nat) (dst : Option Tmp) (s : SV) (l : L) (K : L → Prop) : Prop := match dst with
  | none => K l
  | some d => match Nat.blt d N with
    | true => K ((d, s) :: l)
    | false => False

theorem setd_sound {N : Nat} {dst : Option Tmp} {s : SV} {l : L} {K : L → Prop} {a : Act} (h : setd N dst s l K) (hf : Fr N a l) : ∃ l', K l' ∧ Fr N (a.put dst s.val) l' := by
  unfold setd at h
  split at h
  · exact ⟨l, h, hf⟩
  · split at h
    · rename_i d hd
      exact ⟨_, h, hf.put (by simpa using hd) s⟩
    · exact h.elim

/-- One operation that is carried out. -/
def vcDo (tab : Tab) (N B : Nat) (l : L) (Rs : List Res) (o : Oper) (K : L → List Res → Prop) (E : Prop) : Prop :=
  match pop tab l o.op (fun s => setd N o.dst s l fun l' => K l' Rs) with
  | some X => X
  | none => match o.op with
    | .load T x => vcLoad tab Rs T (ev l x) (fun v => setd N o.dst (.v v) l fun l' => K l' Rs) E
    | .store T x y => match o.dst with
      | none => vcStore tab Rs T (ev l x) (ev l y) (fun Rs' => K l Rs') E
      | some _ => E
    | .alloc T => match tlook tab T with
      | some i => ∀ b, B ≤ b → setd N o.dst (.v (.pointer (some ⟨b, 0, none⟩))) l fun l' => K l' (.blk b T i.zero.cells.toList :: Rs)
      | none => E
    | .box T x => match ev l x with
      | some s => ∀ b, B ≤ b → setd N o.dst (.v (.pointer (some ⟨b, 0, none⟩))) l fun l' => K l' (.blk b T s.val.cells.toList :: Rs)
      | none => E
    | .buildSlice T n ps => match kindIs tab T with
      | some (.slice e) => match tlook tab e, evp l ps.toList with
        | some i, some vs => match Nat.beq i.zero.cells.toList.length i.size, Nat.ble (n * i.size) 16777216, Nat.beq (n * i.size) 0 with
          | true, true, false => match fillL (fun j => some (j * i.size, i.size)) (repL n i.zero.cells.toList) vs with
            | some cs => ∀ b, B ≤ b → setd N o.dst (.v (.slice (some ⟨b, 0, none⟩) n n)) l fun l' => K l' (.blk b e cs :: Rs)
            | none => E
          | _, _, _ => match Nat.beq n 0, ps.toList with
            | true, [] => ∀ b, B ≤ b → setd N o.dst (.v (.slice (some ⟨b, 0, none⟩) 0 0)) l fun l' => K l' (.blk b e [] :: Rs)
            | _, _ => E
        | _, _ => E
      | _ => E
    | _ => E

def isStore : Op → Bool
  | .store .. => true
  | _ => false

/-- What comes of an operation. -/
def Done (P : Program) (N : Nat) (hfs : List PH) (w0 : World) (o : Oper) (a : Act) (w : World) (K : L → List Res → Prop) : Prop :=
  ∃ v w' l' Rs', ((execOp a.eval o).run P w = .ok (.value v) w' ∨ ((execOp a.eval o).run P w = .ok .skip w' ∧ v = undef)) ∧ K l' Rs' ∧ Fr N (a.put o.dst v) l' ∧ Mod hfs Rs' w' ∧ Oth w0 w' ∧ (isStore o.op = false → ∀ n, n < w.heap.size → w'.heap[n]? = w.heap[n]?)

section
variable {P : Program} {tab : Tab} {N : Nat} {hfs : List PH} {w0 : World}

theorem run_loadVar_at (ht : TabOk P tab) {T : Nat} {i : TyI} (hi : tlook tab T = some i) {w : World} {b off : Nat} {T' : TypeId} {cs : List Value} {fr : Nat × Nat} (hb : w.heap[b]? = some (.cells cs.toArray T' fr))
    {v : Value} (h : partL i cs off = some v) : (loadVar T ⟨b, off, none⟩).run P w = .ok v w := by
  have hok := ht T i hi
  have hcell : ∀ j, w.cell? ⟨b, j, none⟩ = cs[j]? := fun j => by simp [World.cell?, hb]
  unfold partL at h
  split at h <;> try (cases h; done)
  rename_i r hr
  split at h <;> try (cases h; done)
  rename_i vs hvs
  obtain ⟨h1, h2⟩ := dropN_spec hr
  obtain ⟨h3, h4⟩ := takeN_spec hvs
  have hvl : vs.length = i.size := by rw [h4]; simp; omega
  have hat : ∀ j u, vs[j]? = some u → cs[off + j]? = some u := by
    intro j u hu
    rw [h4, List.getElem?_take] at hu
    split at hu
    · rw [h2, List.getElem?_drop] at hu; exact hu
    · cases hu
  split at h
  · rename_i ha
    cases h
    have hl := run_loadCells_list (P := P) (w := w) ⟨b, off, none⟩ vs fun j u hu => by
      rw [← addA_eq]
      exact (hcell _).trans (hat j u hu)
    rw [hvl] at hl
    simp only [loadVar, Sem.run_bind, hok.run_agg, Result.andThen_ok, ha, if_true, hok.run_size, hl, Sem.run_pure]
  · rename_i ha
    split at h <;> try (cases h; done)
    rename_i v'
    cases h
    have : cs[off]? = some v := hat 0 v rfl
    simp only [loadVar, Sem.run_bind, hok.run_agg, Result.andThen_ok, ha]
    simp [hcell, this]

/-- Cells written one behind the other. -/
theorem run_storeCells : ∀ (vs : List Value) (i : Nat) {w : World} {b off : Nat} {T : TypeId} {cs : Array Value}, w.heap[b]? = some (.cells cs T (0, 0)) → off + i + vs.length ≤ cs.size → (∀ v ∈ vs, cell1 v = true) →
    ∃ w', (storeCells ⟨b, off, none⟩ vs i).run P w = .ok () w' ∧ w'.heap[b]? = some (.cells (cs.toList.take (off + i) ++ vs ++ cs.toList.drop (off + i + vs.length)).toArray T (0, 0)) ∧ (∀ n, n ≠ b → w'.heap[n]? = w.heap[n]?) ∧ w'.heap.size = w.heap.size ∧ w'.os = w.os ∧ w'.tape = w.tape ∧ w'.output = w.output ∧ w'.drawn = w.drawn
  | [], i, w, b, off, T, cs, hb, _, _ => ⟨w, by simp [storeCells], by simpa using hb, fun _ _ => rfl, rfl, rfl, rfl, rfl, rfl⟩
  | v :: vs, i, w, b, off, T, cs, hb, hl, h1 => by
    simp only [List.length_cons] at hl
    have hv := h1 v (by simp)
    have hc : w.cell? ((⟨b, off, none⟩ : Addr).add i) = some (cs[off + i]'(by omega)) := by
      rw [← addA_eq]; simp [addA, World.cell?, hb, show off + i < cs.size by omega]
    have hfz : w.frozen? ((⟨b, off, none⟩ : Addr).add i) = false := by
      rw [← addA_eq]; simp [addA, World.frozen?, hb]
    have hst : (store ((⟨b, off, none⟩ : Addr).add i) v).run P w = .ok () (w.setCell ((⟨b, off, none⟩ : Addr).add i) v) := by
      cases v <;> simp_all [store, Sem.run, cell1]
    have hadd : (⟨b, off, none⟩ : Addr).add i = ⟨b, off + i, none⟩ := by rw [← addA_eq]; rfl
    have hb' : (w.setCell ⟨b, off + i, none⟩ v).heap[b]? = some (.cells (cs.setIfInBounds (off + i) v) T (0, 0)) := by
      simp [World.setCell, Array.getElem?_modify, hb]
    obtain ⟨w', e1, e2, e3, e4, e5, e6, e7⟩ := run_storeCells vs (i + 1) (w := w.setCell ⟨b, off + i, none⟩ v) (b := b) (off := off) hb' (by simp; omega) (fun u hu => h1 u (by simp [hu]))
    refine ⟨w', ?_, ?_, fun n hn => ?_, by rw [e4]; simp [World.setCell], e5, e6, e7⟩
    · rw [hadd] at hst
      simp only [storeCells, Sem.run_bind, hadd, hst, Result.andThen_ok, e1]
    · rw [e2]
      congr 2
      apply Array.toList_inj.1
      simp only [Array.toList_setIfInBounds, List.length_cons]
      have hk : off + i < cs.toList.length := by simp; omega
      rw [show off + (i + 1) = off + i + 1 from rfl, List.take_add_one, List.take_set_of_le (Nat.le_refl _), List.drop_set_of_lt (by omega)]
      simp [show off + i < cs.size by omega]
      congr 1
      omega
    · rw [e3 n hn]
      simp only [World.setCell, Array.getElem?_modify]
      rw [if_neg (by simpa using fun h => hn h.symm)]

theorem run_storeVar_at (ht : TabOk P tab) {T : Nat} {i : TyI} (hi : tlook tab T = some i) {w : World} {b off : Nat} {T' : TypeId} {cs cs' : List Value} (hb : w.heap[b]? = some (.cells cs.toArray T' (0, 0)))
    {v : Value} (hs : v.cells.toList.length = i.size) (h1 : allOne v.cells.toList = true) (h : splice cs off v.cells.toList = some cs') :
    ∃ w', (storeVar T ⟨b, off, none⟩ v).run P w = .ok () w' ∧ w'.heap[b]? = some (.cells cs'.toArray T' (0, 0)) ∧ (∀ n, n ≠ b → w'.heap[n]? = w.heap[n]?) ∧ Oth w w' := by
  obtain ⟨k1, k2⟩ := splice_spec h
  have hok := ht T i hi
  obtain ⟨w', e1, e2, e3, e4, e5, e6, e7⟩ := run_storeCells (P := P) v.cells.toList 0 (w := w) (b := b) (off := off) hb (by simp at k1 ⊢; omega) (allOne_spec h1)
  refine ⟨w', ?_, ?_, e3, ⟨e5, e6, e7.1, by omega, by omega⟩⟩
  · have hs' : v.cells.size = i.size := by simpa using hs
    simp only [storeVar, Sem.run_bind, hok.run_size, Result.andThen_ok, hs', ne_eq, not_true_eq_false, if_false]
    simpa using e1
  · rw [e2, k2]; simp

theorem vcLoad_sound (ht : TabOk P tab) {Rs : List Res} {T : TypeId} {v : Option SV} {K : Value → Prop} {E : Prop} {w : World} (hm : Mod hfs Rs w) (h : vcLoad tab Rs T v K E) :
    E ∨ ∃ p u, v = some (.v (.pointer (some p))) ∧ K u ∧ (Instr.loadAt T (.pointer (some p))).run P w = .ok u w := by
  unfold vcLoad at h
  split at h
  · rename_i i p hi
    split at h
    · rename_i hsp
      rcases findR_sound h with h | ⟨j, T', cs, h1, h2⟩
      · exact .inl h
      · split at h2
        · rename_i u hu
          refine .inr ⟨p, u, rfl, h2, ?_⟩
          obtain ⟨b, o, s⟩ := p
          simp only at hsp
          subst hsp
          simp [Instr.loadAt, Instr.sureAddr, run_loadVar_at ht hi (hm.blk_at h1) hu]
        · exact h2.elim
    · exact .inl h
  · exact .inl h

theorem vcStore_sound (ht : TabOk P tab) {Rs : List Res} {T : TypeId} {v u : Option SV} {K : List Res → Prop} {E : Prop} {w : World} (hm : Mod hfs Rs w) (h : vcStore tab Rs T v u K E) :
    E ∨ ∃ p s Rs' w', v = some (.v (.pointer (some p))) ∧ u = some s ∧ K Rs' ∧ (Instr.storeAt T (.pointer (some p)) s.val).run P w = .ok () w' ∧ Mod hfs Rs' w' ∧ Oth w w' := by
  unfold vcStore at h
  split at h
  · rename_i i p s hi
    split at h
    · rename_i hsp
      split at h
      · rename_i hsz
        rcases findR_sound h with h | ⟨j, T', cs, h1, h2⟩
        · exact .inl h
        · split at h2
          · rename_i cs' hcs
            obtain ⟨h2, h3⟩ := h2
            obtain ⟨b, o, sp⟩ := p
            simp only at hsp
            subst hsp
            obtain ⟨w', e1, e2, e3, e4⟩ := run_storeVar_at ht hi (hm.blk_at h1) (Nat.eq_of_beq_eq_true hsz) h2 hcs
            refine .inr ⟨_, s, _, w', rfl, rfl, h3, by simp [Instr.storeAt, Instr.sureAddr, e1], ?_, e4⟩
            rw [Nat.zero_add]
            exact hm.setBlk h1 e2 e3
          · exact h2.elim
      · exact .inl h
    · exact .inl h
  · exact .inl h

theorem repL_range (z : List Value) : ∀ n, n * z.length ≠ 0 → ((Array.range (n * z.length)).map fun i => (z.toArray)[i % z.toArray.size]!) = (repL n z).toArray := by
  intro n hn
  have hz : 0 < z.length := Nat.pos_of_ne_zero fun e => hn (by simp [e])
  have len : ∀ n, (repL n z).length = n * z.length := by
    intro n
    induction n with
    | zero => simp [repL]
    | succ n ih => simp [repL, ih, Nat.succ_mul]; omega
  have at_ : ∀ n i, i < n * z.length → (repL n z)[i]? = z[i % z.length]? := by
    intro n
    induction n with
    | zero => intro i h; omega
    | succ n ih =>
      intro i h
      rw [Nat.succ_mul] at h
      simp only [repL, List.getElem?_append]
      split
      · rename_i hlt; rw [Nat.mod_eq_of_lt hlt]
      · rename_i hge
        rw [ih _ (by omega), ← Nat.mod_eq_sub_mod (by omega)]
  apply Array.toList_inj.1
  apply List.ext_getElem?
  intro i
  by_cases hi : i < n * z.length
  · have hm : i % z.length < z.length := Nat.mod_lt _ hz
    simp only [Array.toList_map, Array.toList_range, List.getElem?_map, List.getElem?_range hi, Option.map_some, at_ n i hi]
    simp [hm]
  · rw [List.getElem?_eq_none (by simp; omega), List.getElem?_eq_none (by simp [len]; omega)]

theorem vcDo_sound (ht : TabOk P tab) {l : L} {Rs : List Res} {o : Oper} {K : L → List Res → Prop} {E : Prop} {a : Act} {w : World} (hf : Fr N a l) (hm : Mod hfs Rs w) (hio : Oth w0 w)
    (h : vcDo tab N w0.heap.size l Rs o K E) : E ∨ Done P N hfs w0 o a w K := by
  unfold vcDo at h
  split at h
  · rename_i X hp
    obtain ⟨s, h1, h2⟩ := pop_sound ht hf hp h
    obtain ⟨l', k1, k2⟩ := setd_sound h1 hf
    exact .inr ⟨s.val, w, l', Rs, .inl (h2 w o rfl), k1, k2, hm, hio, fun _ _ _ => rfl⟩
  · have newBlk : ∀ (T : TypeId) (cs : List Value) (v : Value), ((execOp a.eval o).run P w = .ok (.value v) { w with heap := w.heap.push (.cells cs.toArray T (0, 0)) }) →
        setd N o.dst (.v v) l (fun l' => K l' (.blk w.heap.size T cs :: Rs)) → Done P N hfs w0 o a w K := by
      intro T cs v hrun hk
      obtain ⟨l', k1, k2⟩ := setd_sound hk hf
      exact ⟨v, _, l', _, .inl hrun, k1, k2, hm.newBlk T cs, hio.trans (Oth.push w _), fun _ n hn => by simp [Array.getElem?_push, Nat.ne_of_lt hn]⟩
    split at h
    · rename_i T x ho
      rcases vcLoad_sound ht hm h with h | ⟨p, u, h1, h2, h3⟩
      · exact .inl h
      · obtain ⟨l', k1, k2⟩ := setd_sound h2 hf
        refine .inr ⟨u, w, l', Rs, .inl ?_, k1, k2, hm, hio, fun _ _ _ => rfl⟩
        simp only [execOp, ho, ev_sound hf h1, SV.val, Sem.run_bind, h3]
        rfl
    · rename_i T x y ho
      split at h
      · rename_i hd
        rcases vcStore_sound ht hm h with h | ⟨p, s, Rs', w', h1, h2, h3, h4, h5, h6⟩
        · exact .inl h
        · refine .inr ⟨undef, w', l, Rs', .inr ⟨?_, rfl⟩, h3, by rw [hd]; exact hf, h5, hio.trans h6, fun h => (by rw [ho] at h; cases h)⟩
          simp only [execOp, ho, ev_sound hf h1, ev_sound hf h2, SV.val, Sem.run_bind] at h4 ⊢
          rw [h4]
          rfl
      · exact .inl h
    · rename_i T ho
      split at h
      · rename_i i hi
        refine .inr (newBlk T i.zero.cells.toList _ ?_ (h w.heap.size hio.size))
        simp [execOp, ho, Instr.alloc, (ht _ _ hi).run_zero, newVar, newRow, newObj, Sem.run]
      · exact .inl h
    · rename_i T x ho
      split at h
      · rename_i s hs
        refine .inr (newBlk T s.val.cells.toList _ ?_ (h w.heap.size hio.size))
        simp [execOp, ho, Instr.box, ev_sound hf hs, newVar, newRow, newObj, Sem.run]
      · exact .inl h
    · rename_i T n ps ho
      split at h <;> try (exact .inl h)
      rename_i e hk
      split at h <;> try (exact .inl h)
      rename_i i vs hi hvs
      split at h
      rotate_left
      · split at h <;> try (exact .inl h)
        rename_i hn hps
        have hn : n = 0 := Nat.eq_of_beq_eq_true hn
        subst hn
        refine .inr (newBlk e [] _ ?_ (h w.heap.size hio.size))
        obtain ⟨d, hd, k⟩ := kind_spec ht hk
        simp only [TK.ok] at k; subst k
        have hok := ht _ _ hi
        have hps' : ps = #[] := by apply Array.toList_inj.1; simpa using hps
        subst hps'
        simp only [execOp, ho]
        simp [Instr.buildSlice, run_underlying' hd, hok.run_size, Instr.fill, newRow, newObj, Sem.run]
        have e0 : (Array.range 0 : Array Nat) = #[] := by apply Array.toList_inj.1; simp
        rw [e0]
        simp
      rename_i hz hle hnz
      split at h <;> try (exact .inl h)
      rename_i cs hcs
      refine .inr (newBlk e cs _ ?_ (h w.heap.size hio.size))
      obtain ⟨d, hd, k⟩ := kind_spec ht hk
      simp only [TK.ok] at k; subst k
      have hok := ht _ _ hi
      have hz' : i.zero.cells.toList.length = i.size := Nat.eq_of_beq_eq_true hz
      have hnz' : n * i.size ≠ 0 := Nat.ne_of_beq_eq_false hnz
      have hle' : n * i.size ≤ 16777216 := Nat.le_of_ble_eq_true hle
      have hmap : (ps.toList.map fun (x : Nat × Operand) => (x.1, a.eval x.2)) = vs := evp_sound hf hvs
      have hr := repL_range i.zero.cells.toList n (by rw [hz']; exact hnz')
      rw [hz'] at hr
      have hfill := fillL_sound _ vs _ _ hcs
      rw [← hr] at hfill
      simp only [Array.toArray_toList] at hfill
      simp only [execOp, ho]
      simp [Instr.buildSlice, run_underlying' hd, hok.run_size, hok.run_zero, hmap, hfill, newRow, newObj, Sem.run, hnz', show ¬ 16777216 < n * i.size by omega]
    · exact .inl h

end
end Go.RX

/- RX, part 6: a statement whose order is open: every order that its edges let, with a condition on the world that holds as long as none of some operations has been carried out. -/
set_option autoImplicit false
set_option linter.unusedVariables false
set_option linter.unusedSimpArgs false
namespace Go.RX
open Go

/-- None of some operations has come up. -/
def Unl (M : List Nat) (listed : Array Bool) : Prop := ∀ m ∈ M, listed.getD m true = false
/-- The condition, as long as none of them has. -/
def SX (M : List Nat) (LB : World → Prop) (listed : Array Bool) (w : World) : Prop := Unl M listed → LB w

def wpAnyX (P : Program) (ops : Array Oper) (Q : Exit → Act → World → Prop) (M : List Nat) (LB : World → Prop) : Nat → Array Bool → Act → World → Prop
  | 0, listed, a, w => Region.ready .any ops listed = [] ∧ Q .normal a w
  | fuel + 1, listed, a, w =>
    (Region.ready .any ops listed = [] → Q .normal a w) ∧
    ∀ i ∈ Region.ready .any ops listed, wpOp P ops Q i (fun a' w' => SX M LB (listed.setIfInBounds i true) w' ∧ wpAnyX P ops Q M LB fuel (listed.setIfInBounds i true) a' w') a w

section
variable {P : Program} {ops : Array Oper} {Q : Exit → Act → World → Prop} {M : List Nat} {LB : World → Prop}

theorem wpAny_of_X : ∀ (fuel : Nat) (listed : Array Bool) (a : Act) (w : World), wpAnyX P ops Q M LB fuel listed a w → wpAny P .any ops Q fuel listed a w
  | 0, _, _, _, h => h
  | fuel + 1, _, _, _, h => ⟨h.1, fun i hi => wpOp_mono (fun a' w' h' => wpAny_of_X fuel _ a' w' h'.2) (h.2 i hi)⟩

/-- What has come up has come up behind what it waits for. -/
def Closed (ops : Array Oper) (listed : Array Bool) : Prop := ∀ j oj, ops[j]? = some oj → listed.getD j false = true → ∀ e ∈ oj.after, Region.binds .any e = true → listed.getD e.on false = true

theorem Closed.step {listed : Array Bool} {j : Nat} (hc : Closed ops listed) (hj : j ∈ Region.ready .any ops listed) : Closed ops (listed.setIfInBounds j true) := by
  intro i oi hoi hi e he hb
  by_cases hij : i = j
  · subst hij
    obtain ⟨_, oj, hoj, hall⟩ := mem_ready.1 hj
    rw [hoi] at hoj; cases hoj
    exact getD_set_true (hall e he hb)
  · rw [getD_set_ne false (Ne.symm hij)] at hi
    exact getD_set_true (hc i oi hoi hi e he hb)

theorem Closed.start (ops : Array Oper) (n : Nat) : Closed ops (Array.replicate n false) := by
  intro j oj _ hj
  rcases Nat.lt_or_ge j n with h | h
  · simp [h] at hj
  · simp [Array.getElem?_eq_none, h] at hj

/-- An operation comes ahead of another one by edges. -/
inductive AheadT (ops : Array Oper) : Nat → Nat → Prop
  | edge {m i : Nat} {om : Oper} {e : Edge} : ops[m]? = some om → e ∈ om.after → Region.binds .any e = true → e.on = i → AheadT ops m i
  | way {m i : Nat} {om : Oper} {e : Edge} : ops[m]? = some om → e ∈ om.after → Region.binds .any e = true → AheadT ops e.on i → AheadT ops m i

theorem AheadT.listed {m i : Nat} (h : AheadT ops m i) {listed : Array Bool} (hc : Closed ops listed) (hm : listed.getD m false = true) : listed.getD i false = true := by
  induction h with
  | edge h1 h2 h3 h4 => subst h4; exact hc _ _ h1 hm _ h2 h3
  | way h1 h2 h3 _ ih => exact ih (hc _ _ h1 hm _ h2 h3)

/-- Operation 'i' comes ahead of each of M. -/
def Ahead (ops : Array Oper) (M : List Nat) (i : Nat) : Prop := ∀ m ∈ M, AheadT ops m i

theorem Unl.step {listed : Array Bool} {i j : Nat} (hu : Unl M listed) (ha : Ahead ops M i) (hc : Closed ops listed) (hi : i ∈ Region.ready .any ops listed) (hj : j ∈ Region.ready .any ops listed) : Unl M (listed.setIfInBounds j true) ∧ j ∉ M := by
  have hjm : j ∉ M := fun hm => by
    have hil : listed.getD i false = true := by
      obtain ⟨_, oj, hoj, hall⟩ := mem_ready.1 hj
      cases ha j hm with
      | edge h1 h2 h3 h4 => rw [hoj] at h1; cases h1; subst h4; exact hall _ h2 h3
      | way h1 h2 h3 h4 => rw [hoj] at h1; cases h1; exact h4.listed hc (hall _ h2 h3)
    have h0 := (mem_ready.1 hi).1
    rcases Nat.lt_or_ge i listed.size with h' | h'
    · simp [h'] at h0 hil; rw [h0] at hil; cases hil
    · simp [Array.getElem?_eq_none h'] at hil
  refine ⟨fun m hm => ?_, hjm⟩
  have hne : j ≠ m := fun e => hjm (by rw [e]; exact hm)
  rw [getD_set_ne true hne]
  exact hu m hm

/-- An operation that touches no memory, or reads what the condition tells of, is taken first. -/
theorem wpAnyX_first {i : Nat} {oi : Oper} {v : Value} {T : World → Prop} (hi : ops[i]? = some oi) (hsel : ∀ (j : Nat) (o : Oper) cs b, ops[j]? = some o → o.op ≠ .select cs b)
    (hQ : ∀ c a w, Q (.panic c) (a.put oi.dst v) w → Q (.panic c) a w) (hiM : i ∉ M) :
    ∀ (fuel : Nat) (listed : Array Bool) (a : Act) (w : World),
      (∀ j oj, ops[j]? = some oj → j ≠ i → listed.getD j true = false → (∀ e ∈ oj.after, Region.binds .any e = true → e.on ≠ i) → oi.apart ops oj = true) →
      i ∈ Region.ready .any ops listed → YieldsIf P ops T oi v a →
      Closed ops listed → ((∀ w, T w) ∨ (T = LB ∧ Ahead ops M i ∧ Unl M listed)) → SX M LB listed w →
      (SX M LB (listed.setIfInBounds i true) w → wpAnyX P ops Q M LB fuel (listed.setIfInBounds i true) (a.put oi.dst v) w) → wpAnyX P ops Q M LB (fuel + 1) listed a w := by
  have sx : ∀ (listed : Array Bool) (w : World), i ∈ Region.ready .any ops listed → SX M LB listed w → SX M LB (listed.setIfInBounds i true) w := by
    intro listed w hr hS hu
    refine hS fun m hm => ?_
    have := hu m hm
    by_cases hmi : m = i
    · subst hmi
      exact (mem_ready.1 hr).1
    · rwa [getD_set_ne true (fun e => hmi e.symm)] at this
  intro fuel
  induction fuel with
  | zero =>
    intro listed a w _ hr hy hcl hT hS H
    have hTw : T w := by
      rcases hT with hT | ⟨rfl, _, hu⟩
      · exact hT w
      · exact hS hu
    refine ⟨fun h => (by rw [h] at hr; cases hr), fun j hj => ?_⟩
    by_cases hji : j = i
    · subst hji; exact hy.wpOp hi hTw ⟨sx _ _ hr hS, H (sx _ _ hr hS)⟩
    · have := ready_mono hj hji
      rw [(H (sx _ _ hr hS)).1] at this
      cases this
  | succ fuel ih =>
    intro listed a w hfree hr hy hcl hT hS H
    have hTw : T w := by
      rcases hT with hT | ⟨rfl, _, hu⟩
      · exact hT w
      · exact hS hu
    refine ⟨fun h => (by rw [h] at hr; cases hr), fun j hj => ?_⟩
    by_cases hji : j = i
    · subst hji; exact hy.wpOp hi hTw ⟨sx _ _ hr hS, H (sx _ _ hr hS)⟩
    · have h1 := (H (sx _ _ hr hS)).2 j (ready_mono hj hji)
      obtain ⟨hjun, oj, hoj, hall⟩ := mem_ready.1 hj
      have hnot : ∀ e ∈ oj.after, Region.binds .any e = true → e.on ≠ i := fun e he hb heq => by
        have h1 := hall e he hb
        have h0 := (mem_ready.1 hr).1
        rw [heq] at h1
        rcases Nat.lt_or_ge i listed.size with h' | h'
        · simp [h'] at h0 h1; rw [h0] at h1; cases h1
        · simp [Array.getElem?_eq_none h'] at h1
      have h2 := wpOp_putIf hoj (hfree j oj hoj hji hjun hnot) (fun cs b => hsel i oi cs b hi) (fun cs b => hsel j oj cs b hoj) hQ hy h1
      have hfree' : ∀ k ok, ops[k]? = some ok → k ≠ i → (listed.setIfInBounds j true).getD k true = false →
          (∀ e ∈ ok.after, Region.binds .any e = true → e.on ≠ i) → oi.apart ops ok = true := fun k ok hk hki hun hno => by
        refine hfree k ok hk hki ?_ hno
        by_cases hjk : j = k
        · subst hjk; exact hjun
        · rw [getD_set_ne true hjk] at hun; exact hun
      have hT' : (∀ w, T w) ∨ (T = LB ∧ Ahead ops M i ∧ Unl M (listed.setIfInBounds j true)) := by
        rcases hT with hT | ⟨h1, h2, hu⟩
        · exact .inl hT
        · exact .inr ⟨h1, h2, (hu.step h2 hcl hr hj).1⟩
      have hr' := ready_mono hr (Ne.symm hji)
      have hcomm : (listed.setIfInBounds i true).setIfInBounds j true = (listed.setIfInBounds j true).setIfInBounds i true := Array.setIfInBounds_comm _ _ (Ne.symm hji)
      refine wpOp_mono (fun a' w' h3 => ?_) h2
      rw [hcomm] at h3
      -- behind 'j' the condition as it was ahead of 'i'
      have hS' : SX M LB (listed.setIfInBounds j true) w' := by
        intro hu
        refine h3.2.1 fun m hm => ?_
        have := hu m hm
        have hne : i ≠ m := fun e => hiM (by rw [e]; exact hm)
        rwa [getD_set_ne true hne]
      exact ⟨hS', ih (listed.setIfInBounds j true) a' w' hfree' hr' h3.1 (hcl.step hj) hT' hS' (fun _ => h3.2.2)⟩

end
end Go.RX

/- RX, part 7: a stack of code, a frame by slots, resources: what is left to show, by computation ('VC'), and the laws for what computation does not pass (calls, loops, ..). -/
set_option autoImplicit false
set_option linter.unusedVariables false
set_option linter.unusedSimpArgs false
namespace Go.RX
open Go

/-- What is left to run. -/
inductive KI where
  | code (c : Code)
  | ops (ops : Array Oper) (rest : List Oper)
  | blk (id : Nat)
  | fin (J : Act → World → Prop)
  | any (ops : Array Oper) (M : List Nat) (LBR : List Res) (LX : World → Prop) (listed : Array Bool) (plan : List (Nat × Bool))

/-- Blocks of known cells stand in a world. -/
def Holds : List Res → World → Prop
  | [], _ => True
  | .blk b T cs :: r, w => w.heap[b]? = some (.cells cs.toArray T (0, 0)) ∧ Holds r w
  | .hp _ :: r, w => Holds r w

def LBof (LBR : List Res) (LX : World → Prop) : World → Prop := fun w => Holds LBR w ∧ LX w

/-- Operations that touch no memory that is written. -/
def eager : Op → Bool
  | .move _ | .assign _ | .pick .. | .nilCheck _ | .unOp .. | .binOp .. | .fieldAddr .. | .field .. | .indexAddr .. | .index .. | .extract .. | .build .. | .convert .. | .makeFunc .. | .slice .. => true
  | .call c => match c.callee with
    | .builtin .len | .builtin .min | .builtin .max => true
    | _ => false
  | _ => false

def aheadF (ops : Array Oper) : Nat → Nat → Nat → Bool
  | 0, _, _ => false
  | n + 1, m, i => match ops[m]? with
    | some o => o.after.any fun e => Region.binds .any e && (e.on == i || aheadF ops n e.on i)
    | none => false
def aheadB (ops : Array Oper) (M : List Nat) (i : Nat) : Bool := M.all fun m => aheadF ops ops.size m i

theorem aheadF_sound {ops : Array Oper} : ∀ (n m i : Nat), aheadF ops n m i = true → AheadT ops m i
  | 0, _, _, h => by cases h
  | n + 1, m, i, h => by
    simp only [aheadF] at h
    split at h
    · rename_i o ho
      obtain ⟨e, he, hb⟩ := Array.any_eq_true'.1 h
      simp only [Bool.and_eq_true, Bool.or_eq_true, beq_iff_eq] at hb
      rcases hb.2 with h2 | h2
      · exact .edge ho he hb.1 h2
      · exact .way ho he hb.1 (aheadF_sound n _ i h2)
    · cases h

def isLoad : Op → Bool
  | .load .. => true
  | _ => false

def unlB (M : List Nat) (listed : Array Bool) : Bool := M.all fun m => !listed.getD m true

/-- May the operations be taken in this order, for all orders? Each beside its number: is it alone when it comes up (else: it may be taken first). -/
def chk (ops : Array Oper) (M : List Nat) : Array Bool → List (Nat × Bool) → Bool
  | listed, [] => (Region.ready .any ops listed).isEmpty
  | listed, (i, alone) :: r => match ops[i]? with
    | some o => (match alone with
        | true => Region.ready .any ops listed == [i]
        | false => (Region.ready .any ops listed).contains i && Region.free .any ops listed i && !M.contains i && (eager o.op || (isLoad o.op && aheadB ops M i && unlB M listed))) && chk ops M (listed.setIfInBounds i true) r
    | none => true

def Stable (LX : World → Prop) : Prop := ∀ w w', (∀ n, n < w.heap.size → w'.heap[n]? = w.heap[n]?) → LX w → LX w'

def Kpost (P : Program) (Q : Exit → Act → World → Prop) : List KI → Exit → Act → World → Prop
  | [] => Q
  | .code c :: k => Exit.then (c.wp P (Kpost P Q k)) (Kpost P Q k)
  | .ops ops rest :: k => Exit.then (wpList P ops (Kpost P Q k) rest) (Kpost P Q k)
  | .blk id :: k => Exit.inBlock id (Kpost P Q k)
  | .fin J :: k => Exit.then J (Kpost P Q k)
  | .any ops M LBR LX listed plan :: k => Exit.then (fun a w => chk ops M listed plan = true → Region.noSelect ops = true → Stable LX → Closed ops listed → SX M (LBof LBR LX) listed w → wpAnyX P ops (Kpost P Q k) M (LBof LBR LX) plan.length listed a w) (Kpost P Q k)

structure Env where
  P : Program
  tab : Tab
  N : Nat
  res : List ResultVar
  hfs : List PH
  w0 : World
  post : Value → List Res → Prop

def Env.R (E : Env) : Ending → World → Prop := fun e w' => ∃ v Rs, e = .returned v ∧ E.post v Rs ∧ Mod E.hfs Rs w' ∧ Oth E.w0 w'

/-- What the body must come to. -/
def Env.Q (E : Env) : Exit → Act → World → Prop
  | .normal, a, w | .ret, a, w => a.defers = [] ∧ ∀ fn : Func, fn.results.toList = E.res → ∃ v, (results fn a.tmps).run E.P w = .ok v w ∧ E.R (.returned v) w
  | _, _, _ => False

def Go (E : Env) (k : List KI) (l : L) (Rs : List Res) : Prop :=
  ∀ a w, Fr E.N a l → Mod E.hfs Rs w → Oth E.w0 w → Kpost E.P E.Q k .normal a w

theorem Kpost_ret (P : Program) (Q : Exit → Act → World → Prop) : ∀ (k : List KI) (a : Act) (w : World), Kpost P Q k .ret a w = Q .ret a w
  | [], _, _ => rfl
  | .code _ :: k, a, w => Kpost_ret P Q k a w
  | .ops .. :: k, a, w => Kpost_ret P Q k a w
  | .blk _ :: k, a, w => Kpost_ret P Q k a w
  | .fin _ :: k, a, w => Kpost_ret P Q k a w
  | .any .. :: k, a, w => Kpost_ret P Q k a w

theorem Kpost_panic (P : Program) (Q : Exit → Act → World → Prop) (c : List PanicEntry) : ∀ (k : List KI) (a : Act) (w : World), Kpost P Q k (.panic c) a w = Q (.panic c) a w
  | [], _, _ => rfl
  | .code _ :: k, a, w => Kpost_panic P Q c k a w
  | .ops .. :: k, a, w => Kpost_panic P Q c k a w
  | .blk _ :: k, a, w => Kpost_panic P Q c k a w
  | .fin _ :: k, a, w => Kpost_panic P Q c k a w
  | .any .. :: k, a, w => Kpost_panic P Q c k a w

def popExit (id : Nat) : List KI → Option (List KI)
  | .blk id' :: k => match Nat.beq id id' with
    | true => some k
    | false => popExit id k
  | _ :: k => popExit id k
  | [] => none

theorem popExit_sound (P : Program) (Q : Exit → Act → World → Prop) (id : Nat) : ∀ {k k' : List KI}, popExit id k = some k' → ∀ (a : Act) (w : World), Kpost P Q k' .normal a w → Kpost P Q k (.exit id) a w
  | [], _, h, _, _, _ => by simp [popExit] at h
  | .blk id' :: k, k', h, a, w, hk => by
    simp only [popExit] at h
    split at h
    · rename_i hb
      have := Nat.eq_of_beq_eq_true hb
      subst this
      cases h
      simpa [Kpost, Exit.inBlock] using hk
    · rename_i hb
      have hne : id ≠ id' := Nat.ne_of_beq_eq_false hb
      simp only [Kpost, Exit.inBlock, if_neg hne]
      exact popExit_sound P Q id h a w hk
  | .code _ :: k, k', h, a, w, hk => popExit_sound P Q id (k := k) h a w hk
  | .ops .. :: k, k', h, a, w, hk => popExit_sound P Q id (k := k) h a w hk
  | .fin _ :: k, k', h, a, w, hk => popExit_sound P Q id (k := k) h a w hk
  | .any .. :: k, k', h, a, w, hk => popExit_sound P Q id (k := k) h a w hk

/-! ### results -/
def vcRes (tab : Tab) (l : L) (Rs : List Res) : List ResultVar → (List Value → Prop) → Prop
  | [], K => K []
  | .tmp t :: r, K => match look l t with
    | some s => vcRes tab l Rs r fun vs => K (s.val :: vs)
    | none => False
  | .cell t T :: r, K => vcLoad tab Rs T (look l t) (fun v => vcRes tab l Rs r fun vs => K (v :: vs)) False

def retV : List Value → Value
  | [v] => v
  | vs => .tuple vs.toArray

def readRes (a : Act) : ResultVar → Sem Value
  | .tmp t => pure (a.tmps.getD t undef)
  | .cell p t => do loadVar t (← asAddr (a.tmps.getD p undef))

theorem vcRes_sound {P : Program} {tab : Tab} {N : Nat} {hfs : List PH} (ht : TabOk P tab) {l : L} {Rs : List Res} {a : Act} {w : World} (hf : Fr N a l) (hm : Mod hfs Rs w) :
    ∀ (rs : List ResultVar) (K : List Value → Prop), vcRes tab l Rs rs K → ∃ vs, K vs ∧ (rs.mapM (readRes a)).run P w = .ok vs w
  | [], K, h => ⟨[], h, by simp⟩
  | .tmp t :: r, K, h => by
    simp only [vcRes] at h
    split at h
    · rename_i s hs
      obtain ⟨vs, h1, h2⟩ := vcRes_sound ht hf hm r _ h
      refine ⟨_, h1, ?_⟩
      simp only [List.mapM_cons, readRes, Sem.run_bind, Sem.run_pure, Result.andThen_ok, h2]
      rw [Array.getD_eq_getD_getElem?, hf.at_ t s hs]
      rfl
    · exact h.elim
  | .cell t T :: r, K, h => by
    simp only [vcRes] at h
    rcases vcLoad_sound ht hm h with h | ⟨p, u, h1, h2, h3⟩
    · exact h.elim
    · obtain ⟨vs, k1, k2⟩ := vcRes_sound ht hf hm r _ h2
      refine ⟨_, k1, ?_⟩
      have hp : a.tmps.getD t undef = .pointer (some p) := by rw [Array.getD_eq_getD_getElem?, hf.at_ t _ h1]; rfl
      simp only [Instr.loadAt, Instr.sureAddr, Sem.run_bind, Sem.run_pure, Result.andThen_ok] at h3
      simp only [List.mapM_cons, readRes, Sem.run_bind, hp, asAddr, Sem.run_pure, Result.andThen_ok, h3, k2]

def vcRet (E : Env) (l : L) (Rs : List Res) : Prop := vcRes E.tab l Rs E.res fun vs => E.post (retV vs) Rs

theorem vcRet_sound {E : Env} (ht : TabOk E.P E.tab) {l : L} {Rs : List Res} {a : Act} {w : World} (hf : Fr E.N a l) (hm : Mod E.hfs Rs w) (hio : Oth E.w0 w) (h : vcRet E l Rs) : E.Q .ret a w := by
  obtain ⟨vs, h1, h2⟩ := vcRes_sound ht hf hm _ _ h
  refine ⟨hf.defers, fun fn hfn => ⟨retV vs, ?_, retV vs, Rs, rfl, h1, hm, hio⟩⟩
  have hr : (results fn a.tmps) = (do let vs ← fn.results.mapM (readRes a); pure (if h : vs.size = 1 then vs[0] else .tuple vs)) := by
    unfold results
    congr 1
  rw [hr, Sem.run_bind, Array.mapM_eq_mapM_toList, hfn]
  simp only [Sem.run_map, h2, Result.andThen_ok, Sem.run_pure]
  match vs with
  | [] => rfl
  | [v] => rfl
  | u :: v :: r => simp [retV]

end Go.RX

/- RX, part 8: 'VC' and its soundness. -/
set_option autoImplicit false
set_option linter.unusedVariables false
set_option linter.unusedSimpArgs false
namespace Go.RX
open Go

def memb (i : Nat) : List Nat → Bool
  | [] => false
  | x :: r => match Nat.beq i x with
    | true => true
    | false => memb i r
theorem memb_spec {i : Nat} : ∀ {l : List Nat}, memb i l = true → i ∈ l
  | [], h => by cases h
  | x :: r, h => by
    simp only [memb] at h
    split at h
    · rename_i hb; have := Nat.eq_of_beq_eq_true hb; subst this; simp
    · exact List.mem_cons_of_mem _ (memb_spec h)

/-- An operation under its guard. -/
def vcGuard (N : Nat) (ops : List Oper) (l : L) (o : Oper) (D : L → Prop) (K : L → Prop) (S : L → Prop) : Prop := match o.guard with
  | none => D l
  | some (j, want) => match nth ops j with
    | none => S l
    | some oj => match oj.dst with
      | none => S l
      | some t => match look l t with
        | some .tt => match want with
          | true => D l
          | false => setd N o.dst (.v undef) l K
        | some .ff => match want with
          | true => setd N o.dst (.v undef) l K
          | false => D l
        | some (.v (.bool c)) => match want with
          | true => (c = true → D ((t, .tt) :: l)) ∧ (c = false → setd N o.dst (.v undef) ((t, .ff) :: l) K)
          | false => (c = true → setd N o.dst (.v undef) ((t, .tt) :: l) K) ∧ (c = false → D ((t, .ff) :: l))
        | some (.v (.tuple _)) => setd N o.dst (.v undef) l K
        | _ => S l

/-- An operation of a statement whose order is open. -/
def vcAny (E : Env) (M : List Nat) (LBR : List Res) (i : Nat) (alone : Bool) (l : L) (Rs : List Res) (o : Oper) (K : L → List Res → Prop) (S : Prop) : Prop :=
  match alone with
  | true => match isStore o.op, memb i M with
    | true, false => S
    | _, _ => vcDo E.tab E.N E.w0.heap.size l Rs o K S
  | false => match pop E.tab l o.op (fun s => setd E.N o.dst s l fun l' => K l' Rs) with
    | some X => X
    | none => match o.op with
      | .load T x => vcLoad E.tab LBR T (ev l x) (fun v => setd E.N o.dst (.v v) l fun l' => K l' Rs) S
      | _ => S

def decd (c : Operand) (s : SV) (l : L) : L := match c with
  | .tmp t => (t, s) :: l
  | _ => l

/-- What is left to show: computed as far as computation goes. -/
def VC (E : Env) : Nat → List KI → L → List Res → Prop
  | 0, k, l, Rs => Go E k l Rs
  | _ + 1, [], l, Rs => vcRet E l Rs
  | n + 1, .ops ops [] :: k, l, Rs => VC E n k l Rs
  | n + 1, .ops ops (o :: rest) :: k, l, Rs =>
    vcGuard E.N ops.toList l o (fun l => vcDo E.tab E.N E.w0.heap.size l Rs o (fun l' Rs' => VC E n (.ops ops rest :: k) l' Rs') (Go E (.ops ops (o :: rest) :: k) l Rs))
      (fun l' => VC E n (.ops ops rest :: k) l' Rs) (fun l => Go E (.ops ops (o :: rest) :: k) l Rs)
  | n + 1, .blk _ :: k, l, Rs => VC E n k l Rs
  | _ + 1, .fin J :: k, l, Rs => Go E (.fin J :: k) l Rs
  | n + 1, .any ops M LBR LX listed [] :: k, l, Rs => VC E n k l Rs
  | n + 1, .any ops M LBR LX listed ((i, alone) :: r) :: k, l, Rs => match nth ops.toList i with
    | none => Go E (.any ops M LBR LX listed ((i, alone) :: r) :: k) l Rs
    | some o => vcGuard E.N ops.toList l o (fun l => vcAny E M LBR i alone l Rs o (fun l' Rs' => VC E n (.any ops M LBR LX (listed.setIfInBounds i true) r :: k) l' Rs') (Go E (.any ops M LBR LX listed ((i, alone) :: r) :: k) l Rs))
      (fun l' => VC E n (.any ops M LBR LX (listed.setIfInBounds i true) r :: k) l' Rs) (fun l => Go E (.any ops M LBR LX listed ((i, alone) :: r) :: k) l Rs)
  | n + 1, .code c :: k, l, Rs => match c with
    | .skip => VC E n k l Rs
    | .label _ => VC E n k l Rs
    | .seq a b => VC E n (.code a :: .code b :: k) l Rs
    | .block id c => VC E n (.code c :: .blk id :: k) l Rs
    | .exit id => match popExit id k with
      | some k' => VC E n k' l Rs
      | none => Go E (.code (.exit id) :: k) l Rs
    | .cond c t e => match ev l c with
      | some .tt => VC E n (.code t :: k) l Rs
      | some .ff => VC E n (.code e :: k) l Rs
      | some (.v (.bool b)) => (b = true → VC E n (.code t :: k) (decd c .tt l) Rs) ∧ (b = false → VC E n (.code e :: k) (decd c .ff l) Rs)
      | _ => Go E (.code (.cond c t e) :: k) l Rs
    | .region id ops false => VC E n (.ops ops ops.toList :: k) l Rs
    | .ret => vcRet E l Rs
    | c => Go E (.code c :: k) l Rs

section
variable {E : Env}

theorem Fr.dec_ {N : Nat} {a : Act} {l : L} (h : Fr N a l) {c : Operand} {s s' : SV} (e : ev l c = some s) (k : s.val = s'.val) : Fr N a (decd c s' l) := by
  cases c with
  | tmp t => exact h.dec e k
  | const v => exact h
  | global g => exact h
  | func f => exact h

theorem yielded_of {N : Nat} {a : Act} {l : L} (h : Fr N a l) {ops : Array Oper} {j t : Nat} {oj : Oper} {s : SV} {b : Bool} (h1 : nth ops.toList j = some oj) (h2 : oj.dst = some t) (h3 : look l t = some s) (hb : s.val = .bool b) :
    yielded ops a.tmps j = some b := by
  rw [nth_eq] at h1
  have h1' : ops[j]? = some oj := by simpa using h1
  simp [yielded, h1', h2, h.at_ t s h3, hb]

/-- What a guard comes to. -/
theorem vcGuard_sound {N : Nat} {ops : Array Oper} {l : L} {o : Oper} {D K S : L → Prop} {a : Act} (hf : Fr N a l) (h : vcGuard N ops.toList l o D K S) :
    (∃ l', S l' ∧ Fr N a l') ∨ (∃ l', Region.wanted o (yielded ops a.tmps) = true ∧ D l' ∧ Fr N a l') ∨ (∃ l', Region.wanted o (yielded ops a.tmps) = false ∧ K l' ∧ Fr N (a.put o.dst undef) l') := by
  unfold vcGuard at h
  split at h
  · rename_i hg; exact .inr (.inl ⟨l, by simp [Region.wanted, hg], h, hf⟩)
  · rename_i j want hg
    have skip : ∀ {l' : L} (s : SV) (t : Nat) (oj : Oper) (b : Bool), nth ops.toList j = some oj → oj.dst = some t → look l t = some s → s.val = .bool b → b ≠ want → Fr N a l' → setd N o.dst (.v undef) l' K →
        (∃ l', S l' ∧ Fr N a l') ∨ (∃ l', Region.wanted o (yielded ops a.tmps) = true ∧ D l' ∧ Fr N a l') ∨ (∃ l', Region.wanted o (yielded ops a.tmps) = false ∧ K l' ∧ Fr N (a.put o.dst undef) l') := by
      intro l' s t oj b h1 h2 h3 h4 h5 h6 h7
      obtain ⟨l2, k1, k2⟩ := setd_sound h7 h6
      exact .inr (.inr ⟨l2, by simp [Region.wanted, hg, yielded_of hf h1 h2 h3 h4, h5], k1, k2⟩)
    have go : ∀ {l' : L} (s : SV) (t : Nat) (oj : Oper), nth ops.toList j = some oj → oj.dst = some t → look l t = some s → s.val = .bool want → Fr N a l' → D l' →
        (∃ l', S l' ∧ Fr N a l') ∨ (∃ l', Region.wanted o (yielded ops a.tmps) = true ∧ D l' ∧ Fr N a l') ∨ (∃ l', Region.wanted o (yielded ops a.tmps) = false ∧ K l' ∧ Fr N (a.put o.dst undef) l') :=
      fun {l'} s t oj h1 h2 h3 h4 h6 h7 => .inr (.inl ⟨l', by simp [Region.wanted, hg, yielded_of hf h1 h2 h3 h4], h7, h6⟩)
    split at h
    · exact .inl ⟨l, h, hf⟩
    · rename_i oj hoj
      split at h
      · exact .inl ⟨l, h, hf⟩
      · rename_i t ht
        split at h
        · rename_i hl
          cases want
          · exact skip .tt t oj true hoj ht hl rfl (by simp) hf h
          · exact go .tt t oj hoj ht hl rfl hf h
        · rename_i hl
          cases want
          · exact go .ff t oj hoj ht hl rfl hf h
          · exact skip .ff t oj false hoj ht hl rfl (by simp) hf h
        · rename_i c hl
          cases want <;> cases c
          · exact go (.v (.bool false)) t oj hoj ht hl rfl (hf.dec (s' := .ff) hl rfl) (h.2 rfl)
          · exact skip (.v (.bool true)) t oj true hoj ht hl rfl (by simp) (hf.dec (s' := .tt) hl rfl) (h.1 rfl)
          · exact skip (.v (.bool false)) t oj false hoj ht hl rfl (by simp) (hf.dec (s' := .ff) hl rfl) (h.2 rfl)
          · exact go (.v (.bool true)) t oj hoj ht hl rfl (hf.dec (s' := .tt) hl rfl) (h.1 rfl)
        · rename_i vs hl
          obtain ⟨l2, k1, k2⟩ := setd_sound h hf
          refine .inr (.inr ⟨l2, ?_, k1, k2⟩)
          have hy : yielded ops a.tmps j = none := by
            rw [nth_eq] at hoj
            have h1' : ops[j]? = some oj := by simpa using hoj
            simp [yielded, h1', ht, hf.at_ t _ hl, SV.val]
          simp [Region.wanted, hg, hy]
        · exact .inl ⟨l, h, hf⟩

theorem Done.wp {P : Program} {N : Nat} {hfs : List PH} {w0 : World} {o : Oper} {a : Act} {w : World} {K : L → List Res → Prop} (h : Done P N hfs w0 o a w K)
    {J : Act → World → Prop} {Q : Exit → Act → World → Prop} (hJ : ∀ l' Rs' a' w', K l' Rs' → Fr N a' l' → Mod hfs Rs' w' → Oth w0 w' → J a' w') : o.wp P a w J Q := by
  obtain ⟨v, w', l', Rs', hrun, h1, h2, h3, h4, _⟩ := h
  unfold Oper.wp
  rcases hrun with hrun | ⟨hrun, rfl⟩
  · rw [hrun]; exact hJ _ _ _ _ h1 h2 h3 h4
  · rw [hrun]; exact hJ _ _ _ _ h1 h2 h3 h4

theorem pop_eager {tab : Tab} {l : L} {op : Op} {K : SV → Prop} {X : Prop} (h : pop tab l op K = some X) : eager op = true := by
  unfold pop at h
  split at h <;> try (first | rfl | (cases h; done))
  rename_i c
  split at h <;> try (cases h; done)
  all_goals simp [eager, *]

theorem SX.grow {M : List Nat} {LB LB' : World → Prop} {listed : Array Bool} {i : Nat} {w w' : World} {ops : Array Oper} (hr : i ∈ Region.ready .any ops listed) (hS : SX M LB listed w) (hLB : LB w → LB' w') : SX M LB' (listed.setIfInBounds i true) w' := by
  intro hu
  refine hLB (hS fun m hm => ?_)
  have := hu m hm
  by_cases hmi : m = i
  · subst hmi; exact (mem_ready.1 hr).1
  · rwa [getD_set_ne true (fun e => hmi e.symm)] at this

theorem SX.of_mem {M : List Nat} {LB : World → Prop} {listed : Array Bool} {i : Nat} {w' : World} {ops : Array Oper} (hr : i ∈ Region.ready .any ops listed) (hi : i ∈ M) : SX M LB (listed.setIfInBounds i true) w' := by
  intro hu
  have h1 := hu i hi
  have h0 := (mem_ready.1 hr).1
  rcases Nat.lt_or_ge i listed.size with h' | h'
  · simp [h'] at h1
  · simp [Array.getElem?_eq_none h'] at h0

theorem Holds.keep {w w' : World} (hk : ∀ n, n < w.heap.size → w'.heap[n]? = w.heap[n]?) : ∀ {LBR : List Res}, Holds LBR w → Holds LBR w'
  | [], _ => trivial
  | .blk b T cs :: r, h => ⟨by rw [hk b (Array.getElem?_eq_some_iff.1 h.1).1]; exact h.1, Holds.keep hk h.2⟩
  | .hp _ :: r, h => Holds.keep (LBR := r) hk h

theorem Holds.at_ {w : World} {b : Nat} {T : TypeId} {cs : List Value} : ∀ {LBR : List Res} {j : Nat}, Holds LBR w → LBR[j]? = some (.blk b T cs) → w.heap[b]? = some (.cells cs.toArray T (0, 0))
  | [], _, _, h => by simp at h
  | .blk b' T' cs' :: r, 0, hh, h => by simp at h; obtain ⟨rfl, rfl, rfl⟩ := h; exact hh.1
  | .blk b' T' cs' :: r, j + 1, hh, h => Holds.at_ (LBR := r) (j := j) hh.2 (by simpa using h)
  | .hp _ :: r, 0, hh, h => by simp at h
  | .hp _ :: r, j + 1, hh, h => Holds.at_ (LBR := r) (j := j) hh (by simpa using h)

theorem vcLoad_held {P : Program} {tab : Tab} (ht : TabOk P tab) {LBR : List Res} {T : TypeId} {v : Option SV} {K : Value → Prop} {S : Prop} (h : vcLoad tab LBR T v K S) :
    S ∨ ∃ p u, v = some (.v (.pointer (some p))) ∧ K u ∧ ∀ w, Holds LBR w → (Instr.loadAt T (.pointer (some p))).run P w = .ok u w := by
  unfold vcLoad at h
  split at h
  · rename_i i p hi
    split at h
    · rename_i hsp
      rcases findR_sound h with h | ⟨j, T', cs, h1, h2⟩
      · exact .inl h
      · split at h2
        · rename_i u hu
          refine .inr ⟨p, u, rfl, h2, fun w hw => ?_⟩
          obtain ⟨b, o, s⟩ := p
          simp only at hsp
          subst hsp
          simp [Instr.loadAt, Instr.sureAddr, run_loadVar_at ht hi (hw.at_ h1) hu]
        · exact h2.elim
    · exact .inl h
  · exact .inl h


theorem chk_cons {ops : Array Oper} {M : List Nat} {listed : Array Bool} {i : Nat} {alone : Bool} {r : List (Nat × Bool)} {o : Oper} (ho : ops[i]? = some o) (h : chk ops M listed ((i, alone) :: r) = true) :
    chk ops M (listed.setIfInBounds i true) r = true ∧
    ((alone = true ∧ Region.ready .any ops listed = [i]) ∨ (alone = false ∧ i ∈ Region.ready .any ops listed ∧ Region.free .any ops listed i = true ∧ i ∉ M ∧ (eager o.op = true ∨ (isLoad o.op = true ∧ Ahead ops M i ∧ Unl M listed)))) := by
  cases alone with
  | true =>
    simp only [chk, ho, Bool.and_eq_true, beq_iff_eq] at h
    exact ⟨h.2, .inl ⟨rfl, h.1⟩⟩
  | false =>
    simp only [chk, ho, Bool.and_eq_true, Bool.or_eq_true, Bool.not_eq_true'] at h
    obtain ⟨⟨⟨⟨h1, h2⟩, h3⟩, h4⟩, h5⟩ := h
    refine ⟨h5, .inr ⟨rfl, by simpa using h1, h2, by simpa using h3, ?_⟩⟩
    rcases h4 with c | ⟨⟨c, d⟩, e⟩
    · exact .inl c
    · exact .inr ⟨c, fun m hm => aheadF_sound _ _ _ (List.all_eq_true.1 d m hm), fun m hm => by simpa using List.all_eq_true.1 e m hm⟩

theorem Kpost_no_panic (k : List KI) (c : List PanicEntry) (a : Act) (w : World) : ¬ Kpost E.P E.Q k (.panic c) a w := by
  rw [Kpost_panic]; exact id

/-- One that is taken first. -/
theorem any_first {k : List KI} {ops : Array Oper} {M : List Nat} {LBR : List Res} {LX : World → Prop} {listed : Array Bool} {i : Nat} {r : List (Nat × Bool)} {o : Oper} (ho : ops[i]? = some o)
    {a : Act} {w : World} {v : Value}
    (hk : chk ops M listed ((i, false) :: r) = true) (hs : Region.noSelect ops = true) (hst : Stable LX) (hcl : Closed ops listed) (hS : SX M (LBof LBR LX) listed w)
    (hy : YieldsIf E.P ops (fun _ => True) o v a ∨ (isLoad o.op = true ∧ YieldsIf E.P ops (LBof LBR LX) o v a))
    (hJ : Kpost E.P E.Q (.any ops M LBR LX (listed.setIfInBounds i true) r :: k) .normal (a.put o.dst v) w) :
    wpAnyX E.P ops (Kpost E.P E.Q k) M (LBof LBR LX) ((i, false) :: r).length listed a w := by
  obtain ⟨hc, hf⟩ := chk_cons ho hk
  rcases hf with ⟨hf, _⟩ | ⟨_, hr, h1, h2, h3⟩
  · cases hf
  have first : ∀ {T : World → Prop}, YieldsIf E.P ops T o v a → ((∀ w, T w) ∨ (T = LBof LBR LX ∧ Ahead ops M i ∧ Unl M listed)) → wpAnyX E.P ops (Kpost E.P E.Q k) M (LBof LBR LX) ((i, false) :: r).length listed a w := by
    intro T hy hT
    exact wpAnyX_first ho (Region.noSelect_spec hs) (fun c a w h => absurd h (Kpost_no_panic k c _ _)) h2 r.length listed a w (Region.free_spec ho h1) hr hy hcl hT hS (fun hS' => hJ hc hs hst (hcl.step hr) hS')
  rcases hy with hy | ⟨hl, hy⟩
  · exact first hy (.inl fun _ => trivial)
  · rcases h3 with h3 | ⟨_, ha, hu⟩
    · cases hop : o.op <;> simp_all [isLoad, eager]
    · exact first hy (.inr ⟨rfl, ha, hu⟩)

/-- One that is alone when it comes up. -/
theorem any_alone {k : List KI} {ops : Array Oper} {M : List Nat} {LBR : List Res} {LX : World → Prop} {listed : Array Bool} {i : Nat} {r : List (Nat × Bool)} {o : Oper} (ho : ops[i]? = some o)
    {a : Act} {w : World}
    (hk : chk ops M listed ((i, true) :: r) = true) (hs : Region.noSelect ops = true) (hst : Stable LX) (hcl : Closed ops listed)
    (hJ : i ∈ Region.ready .any ops listed → wpOp E.P ops (Kpost E.P E.Q k) i (fun a' w' => SX M (LBof LBR LX) (listed.setIfInBounds i true) w' ∧ Kpost E.P E.Q (.any ops M LBR LX (listed.setIfInBounds i true) r :: k) .normal a' w') a w) :
    wpAnyX E.P ops (Kpost E.P E.Q k) M (LBof LBR LX) ((i, true) :: r).length listed a w := by
  obtain ⟨hc, hf⟩ := chk_cons ho hk
  rcases hf with ⟨_, h1⟩ | ⟨hf, _⟩
  · refine ⟨fun h => (by rw [h1] at h; cases h), fun j hj => ?_⟩
    rw [h1] at hj
    obtain rfl : j = i := by simpa using hj
    refine wpOp_mono (fun a' w' h => ⟨h.1, h.2 hc hs hst (hcl.step (by rw [h1]; simp)) h.1⟩) (hJ (by rw [h1]; simp))
  · cases hf

/-- **What is left to show suffices.** -/
theorem VC_sound (ht : TabOk E.P E.tab) : ∀ (n : Nat) {k : List KI} {l : L} {Rs : List Res}, VC E n k l Rs → Go E k l Rs := by
  intro n
  induction n with
  | zero => intro k l Rs h; exact h
  | succ n ih =>
    intro k l Rs h
    match k with
    | [] => exact fun a w hf hm hio => vcRet_sound ht hf hm hio h
    | .ops ops [] :: k => exact fun a w hf hm hio => ih (k := k) h a w hf hm hio
    | .ops ops (o :: rest) :: k =>
      intro a w hf hm hio
      simp only [VC] at h
      show wpList E.P ops _ (o :: rest) a w
      unfold wpList
      rcases vcGuard_sound hf h with ⟨l', h1, h2⟩ | ⟨l', hw, h1, h2⟩ | ⟨l', hw, h1, h2⟩
      · have := h1 a w h2 hm hio
        simp only [Kpost, Exit.then] at this
        unfold wpList at this
        exact this
      · rw [if_pos hw]
        rcases vcDo_sound ht h2 hm hio h1 with h1 | h1
        · have := h1 a w h2 hm hio
          simp only [Kpost, Exit.then] at this
          unfold wpList at this
          rwa [if_pos hw] at this
        · exact .inl (h1.wp fun l' Rs' a' w' k1 k2 k3 k4 => ih k1 a' w' k2 k3 k4)
      · rw [if_neg (by simp [hw])]
        exact ih h1 _ w h2 hm hio
    | .blk id :: k => exact fun a w hf hm hio => ih (k := k) h a w hf hm hio
    | .fin J :: k => exact h
    | .any ops M LBR LX listed [] :: k =>
      intro a w hf hm hio hc hs hst hcl hS
      have hr : Region.ready .any ops listed = [] := by simpa [chk] using hc
      exact ⟨hr, ih h a w hf hm hio⟩
    | .any ops M LBR LX listed ((i, alone) :: r) :: k =>
      intro a w hf hm hio hc hs hst hcl hS
      simp only [VC] at h
      split at h
      · exact h a w hf hm hio hc hs hst hcl hS
      · rename_i o hn
        have ho : ops[i]? = some o := by rw [nth_eq] at hn; simpa using hn
        rcases vcGuard_sound hf h with ⟨l', h1, h2⟩ | ⟨l', hw, h1, h2⟩ | ⟨l', hw, h1, h2⟩
        · exact h1 a w h2 hm hio hc hs hst hcl hS
        · -- it is carried out
          unfold vcAny at h1
          split at h1
          · have go : vcDo E.tab E.N E.w0.heap.size l' Rs o (fun l' Rs' => VC E n (.any ops M LBR LX (listed.setIfInBounds i true) r :: k) l' Rs') (Go E (.any ops M LBR LX listed ((i, true) :: r) :: k) l' Rs) →
                (isStore o.op = true → i ∈ M) → wpAnyX E.P ops (Kpost E.P E.Q k) M (LBof LBR LX) ((i, true) :: r).length listed a w := by
              intro h1 hst'
              rcases vcDo_sound ht h2 hm hio h1 with h1 | ⟨v, w', l2, Rs', k1, k2, k3, k4, k5, k6⟩
              · exact h1 a w h2 hm hio hc hs hst hcl hS
              · refine any_alone ho hc hs hst hcl fun hr => ?_
                have hJ := ih k2 _ w' k3 k4 k5
                have hSX : SX M (LBof LBR LX) (listed.setIfInBounds i true) w' := by
                  cases hb : isStore o.op with
                  | true => exact SX.of_mem hr (hst' hb)
                  | false => exact SX.grow hr hS fun hl => ⟨hl.1.keep (k6 hb), hst w w' (k6 hb) hl.2⟩
                unfold wpOp
                simp only [ho, hw, if_true]
                refine .inl ?_
                unfold Oper.wp
                rcases k1 with k1 | ⟨k1, rfl⟩
                · rw [k1]; exact ⟨hSX, hJ⟩
                · rw [k1]; exact ⟨hSX, hJ⟩
            split at h1
            · exact h1 a w h2 hm hio hc hs hst hcl hS
            · rename_i hne
              refine go h1 fun hb => ?_
              cases hb' : memb i M with
              | true => exact memb_spec hb'
              | false => exact (hne hb hb').elim
          · split at h1
            · rename_i X hp
              obtain ⟨s, k1, k2⟩ := pop_sound ht h2 hp h1
              obtain ⟨l2, m1, m2⟩ := setd_sound k1 h2
              exact any_first ho hc hs hst hcl hS (.inl (.inl ⟨hw, fun w' _ => k2 w' o rfl⟩)) (ih m1 _ w m2 hm hio)
            · split at h1
              · rename_i T x hop
                rcases vcLoad_held ht h1 with h1 | ⟨p, u, k1, k2, k3⟩
                · exact h1 a w h2 hm hio hc hs hst hcl hS
                · obtain ⟨l2, m1, m2⟩ := setd_sound k2 h2
                  refine any_first ho hc hs hst hcl hS (.inr ⟨by rw [hop]; rfl, .inl ⟨hw, fun w' hw' => ?_⟩⟩) (ih m1 _ w m2 hm hio)
                  simp only [execOp, hop, ev_sound h2 k1, SV.val, Sem.run_bind, k3 w' hw'.1]
                  rfl
              · exact h1 a w h2 hm hio hc hs hst hcl hS
        · -- its guard says no
          have hJ := ih h1 _ w h2 hm hio
          cases alone with
          | true =>
            refine any_alone ho hc hs hst hcl fun hr => ?_
            unfold wpOp
            simp only [ho, hw]
            exact ⟨SX.grow hr hS id, hJ⟩
          | false => exact any_first ho hc hs hst hcl hS (.inl (.inr ⟨hw, rfl⟩)) hJ
    | .code c :: k =>
      intro a w hf hm hio
      show c.wp E.P _ a w
      cases c with
      | skip => exact wp_skip (ih (k := k) h a w hf hm hio)
      | label l => exact wp_label (ih (k := k) h a w hf hm hio)
      | seq c d => exact wp_seq (ih h a w hf hm hio)
      | block id c => exact wp_block (ih h a w hf hm hio)
      | exit id =>
        simp only [VC] at h
        split at h
        · rename_i k' hk
          exact wp_exit (popExit_sound _ _ _ hk a w (ih h a w hf hm hio))
        · exact h a w hf hm hio
      | cond c t e =>
        simp only [VC] at h
        split at h
        · rename_i hc; exact wp_cond_true (ev_sound hf hc) (ih h a w hf hm hio)
        · rename_i hc; exact wp_cond_false (ev_sound hf hc) (ih h a w hf hm hio)
        · rename_i b hc
          cases b
          · exact wp_cond_false (ev_sound hf hc) (ih (h.2 rfl) a w (hf.dec_ hc rfl) hm hio)
          · exact wp_cond_true (ev_sound hf hc) (ih (h.1 rfl) a w (hf.dec_ hc rfl) hm hio)
        · exact h a w hf hm hio
      | region id ops draw =>
        cases draw with
        | false => exact wp_region_list (ih h a w hf hm hio)
        | true => exact h a w hf hm hio
      | ret =>
        refine wp_ret ?_
        rw [Kpost_ret]
        exact vcRet_sound ht hf hm hio h
      | _ => exact h a w hf hm hio

end
end Go.RX
