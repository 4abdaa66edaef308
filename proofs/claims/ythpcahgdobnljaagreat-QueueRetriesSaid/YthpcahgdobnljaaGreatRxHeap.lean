/- RX, part 1: memory as a list of resources; what a world must hold; how it may change. Plain laws, no program. -/
import Derived.OrdersHeld
import Derived.Tactics
import Derived.Below
set_option autoImplicit false
set_option linter.unusedVariables false
set_option linter.unusedSimpArgs false
namespace Go.RX
open Go

/-! ### heaps -/
abbrev PH := Nat → Option Obj
def Dj (a b : PH) : Prop := ∀ n, a n = none ∨ b n = none
def Sub (h : PH) (w : World) : Prop := ∀ n o, h n = some o → w.heap[n]? = some o
abbrev HP := PH → Prop
def one (b : Nat) (o : Obj) : PH := fun n => if n = b then some o else none
def emp : PH := fun _ => none
def heapOf (w : World) : PH := fun n => w.heap[n]?

theorem Dj.symm {a b : PH} (h : Dj a b) : Dj b a := fun n => (h n).symm
theorem one_same (b : Nat) (o : Obj) : one b o b = some o := by simp [one]
theorem one_ne {b n : Nat} (o : Obj) (h : n ≠ b) : one b o n = none := by simp [one, h]
theorem Sub.lt {h : PH} {w : World} (hs : Sub h w) {n : Nat} {o : Obj} (e : h n = some o) : n < w.heap.size :=
  (Array.getElem?_eq_some_iff.1 (hs n o e)).1
theorem Sub.ge {h : PH} {w : World} (hs : Sub h w) {n : Nat} (hn : w.heap.size ≤ n) : h n = none := by
  cases e : h n with
  | none => rfl
  | some o => have := hs.lt e; omega
theorem Sub.emp (w : World) : Sub emp w := fun _ _ e => by cases e
theorem Sub.heapOf (w : World) : Sub (heapOf w) w := fun _ _ e => e
theorem Sub.one {w : World} {b : Nat} {o : Obj} (h : w.heap[b]? = some o) : Sub (RX.one b o) w := by
  intro n o' e
  unfold RX.one at e
  split at e
  · cases e; subst_vars; exact h
  · cases e

inductive Res where
  | blk (b : Nat) (T : TypeId) (cs : List Value)
  | hp (R : HP)

def Res.sem : Res → HP
  | .blk b T cs => fun h => h = one b (.cells cs.toArray T (0, 0))
  | .hp R => R

def Sems : List Res → List PH → Prop
  | [], [] => True
  | R :: Rs, h :: hs => R.sem h ∧ Sems Rs hs
  | _, _ => False

def Wf (L : List PH) (w : World) : Prop := (∀ h ∈ L, Sub h w) ∧ L.Pairwise Dj

/-- The world holds the resources, each in memory of its own, beside the frame's heaps. -/
def Mod (hfs : List PH) (Rs : List Res) (w : World) : Prop := ∃ hs, Sems Rs hs ∧ Wf (hs ++ hfs) w

theorem Wf.perm {a b : List PH} {w : World} (hp : a.Perm b) (h : Wf a w) : Wf b w :=
  ⟨fun x hx => h.1 x (hp.mem_iff.2 hx), (hp.pairwise_iff (fun h => Dj.symm h)).1 h.2⟩

theorem Wf.cons {h : PH} {r : List PH} {w : World} : Wf (h :: r) w ↔ Sub h w ∧ (∀ g ∈ r, Dj h g) ∧ Wf r w := by
  unfold Wf
  simp only [List.mem_cons, forall_eq_or_imp, List.pairwise_cons]
  exact ⟨fun ⟨⟨a, b⟩, c, d⟩ => ⟨a, c, b, d⟩, fun ⟨a, c, b, d⟩ => ⟨⟨a, b⟩, c, d⟩⟩

/-- One heap turns into another one, in another world; all else stays. -/
theorem Wf.change {h h' : PH} {r : List PH} {w w' : World} (hw : Wf (h :: r) w)
    (hk : ∀ n, n < w.heap.size → h n = none → w'.heap[n]? = w.heap[n]? ∧ h' n = none) (hs : Sub h' w') : Wf (h' :: r) w' := by
  obtain ⟨_, h2, h3⟩ := Wf.cons.1 hw
  refine Wf.cons.2 ⟨hs, fun g hg n => ?_, fun g hg n o e => ?_, h3.2⟩
  · cases e : g n with
    | none => exact .inr rfl
    | some o =>
      have hlt := (h3.1 g hg).lt e
      rcases h2 g hg n with hn | hn
      · exact .inl (hk n hlt hn).2
      · rw [hn] at e; cases e
  · have hlt := (h3.1 g hg).lt e
    rcases h2 g hg n with hn | hn
    · rw [(hk n hlt hn).1]; exact h3.1 g hg n o e
    · rw [hn] at e; cases e

theorem Wf.addEmp {r : List PH} {w : World} (h : Wf r w) : Wf (emp :: r) w := Wf.cons.2 ⟨Sub.emp w, fun _ _ _ => .inl rfl, h⟩

theorem Sems.length : ∀ {Rs : List Res} {hs : List PH}, Sems Rs hs → hs.length = Rs.length
  | [], [], _ => rfl
  | [], _ :: _, h => h.elim
  | _ :: _, [], h => h.elim
  | _ :: Rs, _ :: hs, h => by simp [Sems.length h.2]

theorem Sems.append : ∀ {a b : List Res} {ha hb : List PH}, Sems a ha → Sems b hb → Sems (a ++ b) (ha ++ hb)
  | [], _, [], _, _, h => h
  | [], _, _ :: _, _, h, _ => h.elim
  | _ :: _, _, [], _, h, _ => h.elim
  | _ :: a, b, _ :: ha, hb, h, k => ⟨h.1, Sems.append h.2 k⟩

theorem Sems.split : ∀ {a b : List Res} {hs : List PH}, Sems (a ++ b) hs → ∃ ha hb, hs = ha ++ hb ∧ Sems a ha ∧ Sems b hb
  | [], _, hs, h => ⟨[], hs, rfl, trivial, h⟩
  | _ :: _, _, [], h => h.elim
  | R :: a, b, x :: hs, h => by
    obtain ⟨ha, hb, e, h1, h2⟩ := Sems.split (a := a) h.2
    exact ⟨x :: ha, hb, by simp [e], ⟨h.1, h1⟩, h2⟩

/-- The resource at a place; and another one in its stead. -/
theorem Sems.at_ : ∀ {Rs : List Res} {hs : List PH} {i : Nat} {R : Res}, Sems Rs hs → Rs[i]? = some R →
    ∃ h r, R.sem h ∧ hs.Perm (h :: r) ∧ ∀ R' h', R'.sem h' → ∃ hs', Sems (Rs.set i R') hs' ∧ hs'.Perm (h' :: r)
  | [], _, _, _, _, h => by simp at h
  | _ :: _, [], _, _, h, _ => h.elim
  | S :: Rs, x :: hs, 0, R, h, hi => by
    simp at hi; subst hi
    exact ⟨x, hs, h.1, List.Perm.refl _, fun R' h' hr => ⟨h' :: hs, ⟨hr, h.2⟩, List.Perm.refl _⟩⟩
  | S :: Rs, x :: hs, i + 1, R, h, hi => by
    obtain ⟨g, r, h1, h2, h3⟩ := Sems.at_ (i := i) h.2 (by simpa using hi)
    refine ⟨g, x :: r, h1, (h2.cons x).trans (List.Perm.swap _ _ _), fun R' h' hr => ?_⟩
    obtain ⟨hs', k1, k2⟩ := h3 R' h' hr
    exact ⟨x :: hs', ⟨h.1, k1⟩, (k2.cons x).trans (List.Perm.swap _ _ _)⟩

theorem Mod.wf {hfs : List PH} {Rs : List Res} {w : World} (hm : Mod hfs Rs w) : Wf hfs w := by
  obtain ⟨hs, _, h⟩ := hm
  exact ⟨fun x hx => h.1 x (by simp [hx]), (List.pairwise_append.1 h.2).2.1⟩

theorem Mod.sub {hfs : List PH} {Rs : List Res} {w : World} (hm : Mod hfs Rs w) : ∀ h ∈ hfs, Sub h w := hm.wf.1

theorem Mod.perm {hfs hfs' : List PH} {Rs : List Res} {w : World} (hp : hfs.Perm hfs') (hm : Mod hfs Rs w) : Mod hfs' Rs w := by
  obtain ⟨hs, h1, h2⟩ := hm
  exact ⟨hs, h1, h2.perm (hp.append_left hs)⟩

/-- A resource's memory turns into another one's. -/
theorem Mod.turn {hfs : List PH} {Rs : List Res} {w w' : World} {i : Nat} {R R' : Res} (hm : Mod hfs Rs w) (hi : Rs[i]? = some R)
    (h : ∀ h, R.sem h → Sub h w → ∃ h', R'.sem h' ∧ Sub h' w' ∧ ∀ n, n < w.heap.size → h n = none → w'.heap[n]? = w.heap[n]? ∧ h' n = none) : Mod hfs (Rs.set i R') w' := by
  obtain ⟨hs, h1, h2⟩ := hm
  obtain ⟨g, r, k1, k2, k3⟩ := h1.at_ hi
  have h2' : Wf (g :: (r ++ hfs)) w := h2.perm (k2.append_right hfs)
  obtain ⟨g', m1, m2, m3⟩ := h g k1 (h2'.1 g (by simp))
  obtain ⟨hs', n1, n2⟩ := k3 R' g' m1
  exact ⟨hs', n1, (h2'.change m3 m2).perm (n2.symm.append_right hfs)⟩

/-- A resource's memory, and what it may turn into. -/
theorem Mod.open_ {hfs : List PH} {Rs : List Res} {w : World} {i : Nat} {R : Res} (hm : Mod hfs Rs w) (hi : Rs[i]? = some R) :
    ∃ h, R.sem h ∧ Sub h w ∧ ∀ (R' : Res) (h' : PH) (w' : World), R'.sem h' → Sub h' w' → (∀ n, n < w.heap.size → h n = none → w'.heap[n]? = w.heap[n]? ∧ h' n = none) → Mod hfs (Rs.set i R') w' := by
  obtain ⟨hs, h1, h2⟩ := hm
  obtain ⟨g, r, k1, k2, k3⟩ := h1.at_ hi
  have h2' : Wf (g :: (r ++ hfs)) w := h2.perm (k2.append_right hfs)
  refine ⟨g, k1, h2'.1 g (by simp), fun R' g' w' m1 m2 m3 => ?_⟩
  obtain ⟨hs', n1, n2⟩ := k3 R' g' m1
  exact ⟨hs', n1, (h2'.change m3 m2).perm (n2.symm.append_right hfs)⟩

/-- What a resource says of the world. -/
theorem Mod.get {hfs : List PH} {Rs : List Res} {w : World} {i : Nat} {R : Res} (hm : Mod hfs Rs w) (hi : Rs[i]? = some R) : ∃ h, R.sem h ∧ Sub h w := by
  obtain ⟨hs, h1, h2⟩ := hm
  obtain ⟨g, r, k1, k2, _⟩ := h1.at_ hi
  exact ⟨g, k1, h2.1 g (List.mem_append_left _ (k2.mem_iff.2 (by simp)))⟩

theorem Mod.set_same {Rs : List Res} {i : Nat} {R : Res} (hi : Rs[i]? = some R) : Rs.set i R = Rs := by
  induction Rs generalizing i with
  | nil => simp at hi
  | cons S Rs ih =>
    cases i with
    | zero => simp at hi; subst hi; rfl
    | succ i => simp at hi; simp [ih hi]

/-- Old blocks as they were. -/
theorem Mod.keep {hfs : List PH} {Rs : List Res} {w w' : World} (hm : Mod hfs Rs w) (hk : ∀ n, n < w.heap.size → w'.heap[n]? = w.heap[n]?) : Mod hfs Rs w' := by
  obtain ⟨hs, h1, h2⟩ := hm
  exact ⟨hs, h1, fun h hh n o e => by rw [hk n ((h2.1 h hh).lt e)]; exact h2.1 h hh n o e, h2.2⟩

/-- Beside it a new resource, in new memory. -/
theorem Mod.add {hfs : List PH} {Rs : List Res} {w w' : World} {R : Res} {h : PH} (hm : Mod hfs Rs w) (hk : ∀ n, n < w.heap.size → w'.heap[n]? = w.heap[n]?)
    (hR : R.sem h) (hn : ∀ n, n < w.heap.size → h n = none) (hs : Sub h w') : Mod hfs (R :: Rs) w' := by
  obtain ⟨hs0, h1, h2⟩ := hm
  refine ⟨h :: hs0, ⟨hR, h1⟩, ?_⟩
  exact h2.addEmp.change (fun n hlt _ => ⟨hk n hlt, hn n hlt⟩) hs

theorem Mod.blk_at {hfs : List PH} {Rs : List Res} {w : World} {i b : Nat} {T : TypeId} {cs : List Value} (hm : Mod hfs Rs w) (hi : Rs[i]? = some (.blk b T cs)) :
    w.heap[b]? = some (.cells cs.toArray T (0, 0)) := by
  obtain ⟨h, h1, h2⟩ := hm.get hi
  cases h1
  exact h2 _ _ (one_same _ _)

/-- A block of known cells is written. -/
theorem Mod.setBlk {hfs : List PH} {Rs : List Res} {w w' : World} {i b : Nat} {T : TypeId} {cs cs' : List Value} (hm : Mod hfs Rs w) (hi : Rs[i]? = some (.blk b T cs))
    (hb : w'.heap[b]? = some (.cells cs'.toArray T (0, 0))) (hk : ∀ n, n ≠ b → w'.heap[n]? = w.heap[n]?) : Mod hfs (Rs.set i (.blk b T cs')) w' :=
  hm.turn hi fun h h1 _ => by
    cases h1
    refine ⟨_, rfl, Sub.one hb, fun n _ hn => ?_⟩
    have hne : n ≠ b := fun e => by subst e; rw [one_same] at hn; cases hn
    exact ⟨hk n hne, one_ne _ hne⟩

/-- A new block of known cells. -/
theorem Mod.newBlk {hfs : List PH} {Rs : List Res} {w : World} (hm : Mod hfs Rs w) (T : TypeId) (cs : List Value) :
    Mod hfs (.blk w.heap.size T cs :: Rs) { w with heap := w.heap.push (.cells cs.toArray T (0, 0)) } :=
  hm.add (h := one w.heap.size (.cells cs.toArray T (0, 0))) (fun n hn => by simp [Array.getElem?_push, Nat.ne_of_lt hn]) rfl (fun n hn => one_ne _ (Nat.ne_of_lt hn)) (Sub.one (by simp))

theorem Mod.permRs {hfs : List PH} {a b : List Res} {w : World} (hp : a.Perm b) (hm : Mod hfs a w) : Mod hfs b w := by
  have key : ∀ {a b : List Res}, a.Perm b → ∀ hs, Sems a hs → ∃ hs', Sems b hs' ∧ hs.Perm hs' := by
    intro a b hp
    induction hp with
    | nil => exact fun hs h => ⟨hs, h, List.Perm.refl _⟩
    | cons x hp ih =>
      intro hs h
      cases hs with
      | nil => exact h.elim
      | cons g hs => obtain ⟨hs', k1, k2⟩ := ih hs h.2; exact ⟨g :: hs', ⟨h.1, k1⟩, k2.cons g⟩
    | swap x y l =>
      intro hs h
      cases hs with
      | nil => exact h.elim
      | cons g hs =>
        cases hs with
        | nil => exact h.2.elim
        | cons g2 hs => exact ⟨g2 :: g :: hs, ⟨h.2.1, h.1, h.2.2⟩, List.Perm.swap _ _ _⟩
    | trans _ _ i1 i2 =>
      intro hs h
      obtain ⟨h1, k1, k2⟩ := i1 hs h
      obtain ⟨h2, m1, m2⟩ := i2 h1 k1
      exact ⟨h2, m1, k2.trans m2⟩
  obtain ⟨hs, h1, h2⟩ := hm
  obtain ⟨hs', k1, k2⟩ := key hp hs h1
  exact ⟨hs', k1, h2.perm (k2.append_right hfs)⟩

/-- Some resources alone, the others as part of the frame; and back. -/
theorem Mod.split {hfs : List PH} {a b : List Res} {w : World} (hm : Mod hfs (a ++ b) w) : ∃ hb, Mod (hb ++ hfs) a w ∧ ∀ (a' : List Res) (w' : World), Mod (hb ++ hfs) a' w' → Mod hfs (a' ++ b) w' := by
  obtain ⟨hs, h1, h2⟩ := hm
  obtain ⟨ha, hb, rfl, k1, k2⟩ := Sems.split h1
  refine ⟨hb, ⟨ha, k1, by simpa using h2⟩, fun a' w' ⟨ha', m1, m2⟩ => ⟨ha' ++ hb, Sems.append m1 k2, by simpa using m2⟩⟩

theorem Mod.drop {hfs : List PH} {a b : List Res} {w : World} (hm : Mod hfs (a ++ b) w) : Mod hfs b w := by
  obtain ⟨hs, h1, h2⟩ := hm
  obtain ⟨ha, hb, rfl, k1, k2⟩ := Sems.split h1
  refine ⟨hb, k2, fun x hx => h2.1 x (by simp at hx ⊢; exact .inr hx), ?_⟩
  have := h2.2
  rw [List.append_assoc] at this
  exact (List.pairwise_append.1 this).2.1

theorem Mod.dropAt {hfs : List PH} {Rs : List Res} {w : World} (i : Nat) (hm : Mod hfs Rs w) : Mod hfs (Rs.eraseIdx i) w := by
  by_cases hi : i < Rs.length
  · refine Mod.drop (a := [Rs[i]]) (hm.permRs ?_)
    rw [List.eraseIdx_eq_take_drop_succ]
    have : Rs = Rs.take i ++ Rs[i] :: Rs.drop (i + 1) := by simp
    exact (List.Perm.of_eq this).trans List.perm_middle
  · rwa [List.eraseIdx_of_length_le (by omega)]

/-! ### the world's other parts -/
structure Oth (w w' : World) : Prop where
  os : w'.os = w.os
  tape : w'.tape = w.tape
  output : w'.output = w.output
  size : w.heap.size ≤ w'.heap.size
  drawn : w.drawn ≤ w'.drawn

/-- Old blocks as they were, and no draw is taken back. -/
structure BelowD (B : Nat) (w w' : World) : Prop extends Go.RowKit.Below B w w' where
  drawn : w.drawn ≤ w'.drawn
theorem BelowD.refl (B : Nat) (w : World) : BelowD B w w := ⟨Go.RowKit.Below.refl B w, Nat.le_refl _⟩
theorem BelowD.trans {B : Nat} {a b c : World} (h : BelowD B a b) (k : BelowD B b c) : BelowD B a c := ⟨h.toBelow.trans k.toBelow, Nat.le_trans h.drawn k.drawn⟩
theorem BelowD.mono {B B' : Nat} {a b : World} (h : BelowD B a b) (hB : B' ≤ B) : BelowD B' a b := ⟨h.toBelow.mono hB, h.drawn⟩

theorem Oth.refl (w : World) : Oth w w := ⟨rfl, rfl, rfl, Nat.le_refl _, Nat.le_refl _⟩
theorem Oth.trans {a b c : World} (h : Oth a b) (k : Oth b c) : Oth a c := ⟨k.os.trans h.os, k.tape.trans h.tape, k.output.trans h.output, Nat.le_trans h.size k.size, Nat.le_trans h.drawn k.drawn⟩
theorem Oth.push (w : World) (o : Obj) : Oth w { w with heap := w.heap.push o } := ⟨rfl, rfl, rfl, by simp, Nat.le_refl _⟩
theorem Oth.of_below {B : Nat} {w w' : World} (h : BelowD B w w') : Oth w w' := ⟨h.os, h.tape, h.output, h.size, h.drawn⟩

theorem Mod.start (w : World) : Mod [heapOf w] [] w := ⟨[], trivial, by simp [Wf, Sub.heapOf]⟩

/-- All of a world as one heap: what is behind a call that only makes memory. -/
theorem Mod.below {w w' : World} {Rs : List Res} (hm : Mod [heapOf w] Rs w') (hi : Oth w w') : BelowD w.heap.size w w' :=
  ⟨⟨hi.os, hi.tape, hi.output, hi.size, fun k hk => by
    have := hm.sub (heapOf w) (by simp) k (w.heap[k]) (by simp [heapOf, hk])
    rw [this]; simp [hk]⟩, hi.drawn⟩

theorem Mod.of_below {w w' : World} (h : BelowD w.heap.size w w') : Mod [heapOf w] [] w' :=
  (Mod.start w).keep fun n hn => h.block n hn

/-- What was made beside a world, beside what was known of that world. -/
theorem Mod.beside {w w' : World} {Rs' : List Res} (hm' : Mod [heapOf w] Rs' w') {hfs : List PH} {Rs : List Res} (hm : Mod hfs Rs w) : Mod hfs (Rs' ++ Rs) w' := by
  obtain ⟨hs', a1, a2⟩ := hm'
  obtain ⟨hs, b1, b2⟩ := hm
  refine ⟨hs' ++ hs, Sems.append a1 b1, ?_⟩
  rw [List.append_assoc]
  have hold : ∀ g ∈ hs ++ hfs, ∀ n o, g n = some o → w'.heap[n]? = some o := fun g hg n o e => a2.1 (heapOf w) (by simp) n o (b2.1 g hg n o e)
  refine ⟨fun g hg => ?_, List.pairwise_append.2 ⟨(List.pairwise_append.1 a2.2).1, b2.2, fun h hh g hg n => ?_⟩⟩
  · rcases List.mem_append.1 hg with hg | hg
    · exact a2.1 g (by simp [hg])
    · exact hold g hg
  · rcases (List.pairwise_append.1 a2.2).2.2 h hh (heapOf w) (by simp) n with hn | hn
    · exact .inl hn
    · refine .inr ?_
      cases e : g n with
      | none => rfl
      | some o => have := b2.1 g hg n o e; simp [heapOf] at hn; rw [Array.getElem?_eq_none hn] at this; cases this

end Go.RX
