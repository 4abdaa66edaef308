/- RX, part 8: 'VC' and its soundness. -/
import Derived.Test.YthpcahgdobnljaaGreatRxGo
set_option autoImplicit false
set_option linter.unusedVariables false
set_option linter.unusedSimpArgs false
namespace Go.RX
open Go

def memb (i : Nat) : List Nat → Bool
  | [] => false
  | x :: r => match Nat.beq i x with
    | true => true
    | false => memb i r
theorem memb_spec {i : Nat} : ∀ {l : List Nat}, memb i l = true → i ∈ l
  | [], h => by cases h
  | x :: r, h => by
    simp only [memb] at h
    split at h
    · rename_i hb; have := Nat.eq_of_beq_eq_true hb; subst this; simp
    · exact List.mem_cons_of_mem _ (memb_spec h)

/-- An operation under its guard. -/
def vcGuard (N : Nat) (ops : List Oper) (l : L) (o : Oper) (D : L → Prop) (K : L → Prop) (S : L → Prop) : Prop := match o.guard with
  | none => D l
  | some (j, want) => match nth ops j with
    | none => S l
    | some oj => match oj.dst with
      | none => S l
      | some t => match look l t with
        | some .tt => match want with
          | true => D l
          | false => setd N o.dst (.v undef) l K
        | some .ff => match want with
          | true => setd N o.dst (.v undef) l K
          | false => D l
        | some (.v (.bool c)) => match want with
          | true => (c = true → D ((t, .tt) :: l)) ∧ (c = false → setd N o.dst (.v undef) ((t, .ff) :: l) K)
          | false => (c = true → setd N o.dst (.v undef) ((t, .tt) :: l) K) ∧ (c = false → D ((t, .ff) :: l))
        | some (.v (.tuple _)) => setd N o.dst (.v undef) l K
        | _ => S l

/-- An operation of a statement whose order is open. -/
def vcAny (E : Env) (M : List Nat) (LBR : List Res) (i : Nat) (alone : Bool) (l : L) (Rs : List Res) (o : Oper) (K : L → List Res → Prop) (S : Prop) : Prop :=
  match alone with
  | true => match isStore o.op, memb i M with
    | true, false => S
    | _, _ => vcDo E.tab E.N E.w0.heap.size l Rs o K S
  | false => match pop E.tab l o.op (fun s => setd E.N o.dst s l fun l' => K l' Rs) with
    | some X => X
    | none => match o.op with
      | .load T x => vcLoad E.tab LBR T (ev l x) (fun v => setd E.N o.dst (.v v) l fun l' => K l' Rs) S
      | _ => S

def decd (c : Operand) (s : SV) (l : L) : L := match c with
  | .tmp t => (t, s) :: l
  | _ => l

/-- What is left to show: computed as far as computation goes. -/
def VC (E : Env) : Nat → List KI → L → List Res → Prop
  | 0, k, l, Rs => Go E k l Rs
  | _ + 1, [], l, Rs => vcRet E l Rs
  | n + 1, .ops ops [] :: k, l, Rs => VC E n k l Rs
  | n + 1, .ops ops (o :: rest) :: k, l, Rs =>
    vcGuard E.N ops.toList l o (fun l => vcDo E.tab E.N E.w0.heap.size l Rs o (fun l' Rs' => VC E n (.ops ops rest :: k) l' Rs') (Go E (.ops ops (o :: rest) :: k) l Rs))
      (fun l' => VC E n (.ops ops rest :: k) l' Rs) (fun l => Go E (.ops ops (o :: rest) :: k) l Rs)
  | n + 1, .blk _ :: k, l, Rs => VC E n k l Rs
  | _ + 1, .fin J :: k, l, Rs => Go E (.fin J :: k) l Rs
  | n + 1, .any ops M LBR LX listed [] :: k, l, Rs => VC E n k l Rs
  | n + 1, .any ops M LBR LX listed ((i, alone) :: r) :: k, l, Rs => match nth ops.toList i with
    | none => Go E (.any ops M LBR LX listed ((i, alone) :: r) :: k) l Rs
    | some o => vcGuard E.N ops.toList l o (fun l => vcAny E M LBR i alone l Rs o (fun l' Rs' => VC E n (.any ops M LBR LX (listed.setIfInBounds i true) r :: k) l' Rs') (Go E (.any ops M LBR LX listed ((i, alone) :: r) :: k) l Rs))
      (fun l' => VC E n (.any ops M LBR LX (listed.setIfInBounds i true) r :: k) l' Rs) (fun l => Go E (.any ops M LBR LX listed ((i, alone) :: r) :: k) l Rs)
  | n + 1, .code c :: k, l, Rs => match c with
    | .skip => VC E n k l Rs
    | .label _ => VC E n k l Rs
    | .seq a b => VC E n (.code a :: .code b :: k) l Rs
    | .block id c => VC E n (.code c :: .blk id :: k) l Rs
    | .exit id => match popExit id k with
      | some k' => VC E n k' l Rs
      | none => Go E (.code (.exit id) :: k) l Rs
    | .cond c t e => match ev l c with
      | some .tt => VC E n (.code t :: k) l Rs
      | some .ff => VC E n (.code e :: k) l Rs
      | some (.v (.bool b)) => (b = true → VC E n (.code t :: k) (decd c .tt l) Rs) ∧ (b = false → VC E n (.code e :: k) (decd c .ff l) Rs)
      | _ => Go E (.code (.cond c t e) :: k) l Rs
    | .region id ops false => VC E n (.ops ops ops.toList :: k) l Rs
    | .ret => vcRet E l Rs
    | c => Go E (.code c :: k) l Rs

section
variable {E : Env}

theorem Fr.dec_ {N : Nat} {a : Act} {l : L} (h : Fr N a l) {c : Operand} {s s' : SV} (e : ev l c = some s) (k : s.val = s'.val) : Fr N a (decd c s' l) := by
  cases c with
  | tmp t => exact h.dec e k
  | const v => exact h
  | global g => exact h
  | func f => exact h

theorem yielded_of {N : Nat} {a : Act} {l : L} (h : Fr N a l) {ops : Array Oper} {j t : Nat} {oj : Oper} {s : SV} {b : Bool} (h1 : nth ops.toList j = some oj) (h2 : oj.dst = some t) (h3 : look l t = some s) (hb : s.val = .bool b) :
    yielded ops a.tmps j = some b := by
  rw [nth_eq] at h1
  have h1' : ops[j]? = some oj := by simpa using h1
  simp [yielded, h1', h2, h.at_ t s h3, hb]

/-- What a guard comes to. -/
theorem vcGuard_sound {N : Nat} {ops : Array Oper} {l : L} {o : Oper} {D K S : L → Prop} {a : Act} (hf : Fr N a l) (h : vcGuard N ops.toList l o D K S) :
    (∃ l', S l' ∧ Fr N a l') ∨ (∃ l', Region.wanted o (yielded ops a.tmps) = true ∧ D l' ∧ Fr N a l') ∨ (∃ l', Region.wanted o (yielded ops a.tmps) = false ∧ K l' ∧ Fr N (a.put o.dst undef) l') := by
  unfold vcGuard at h
  split at h
  · rename_i hg; exact .inr (.inl ⟨l, by simp [Region.wanted, hg], h, hf⟩)
  · rename_i j want hg
    have skip : ∀ {l' : L} (s : SV) (t : Nat) (oj : Oper) (b : Bool), nth ops.toList j = some oj → oj.dst = some t → look l t = some s → s.val = .bool b → b ≠ want → Fr N a l' → setd N o.dst (.v undef) l' K →
        (∃ l', S l' ∧ Fr N a l') ∨ (∃ l', Region.wanted o (yielded ops a.tmps) = true ∧ D l' ∧ Fr N a l') ∨ (∃ l', Region.wanted o (yielded ops a.tmps) = false ∧ K l' ∧ Fr N (a.put o.dst undef) l') := by
      intro l' s t oj b h1 h2 h3 h4 h5 h6 h7
      obtain ⟨l2, k1, k2⟩ := setd_sound h7 h6
      exact .inr (.inr ⟨l2, by simp [Region.wanted, hg, yielded_of hf h1 h2 h3 h4, h5], k1, k2⟩)
    have go : ∀ {l' : L} (s : SV) (t : Nat) (oj : Oper), nth ops.toList j = some oj → oj.dst = some t → look l t = some s → s.val = .bool want → Fr N a l' → D l' →
        (∃ l', S l' ∧ Fr N a l') ∨ (∃ l', Region.wanted o (yielded ops a.tmps) = true ∧ D l' ∧ Fr N a l') ∨ (∃ l', Region.wanted o (yielded ops a.tmps) = false ∧ K l' ∧ Fr N (a.put o.dst undef) l') :=
      fun {l'} s t oj h1 h2 h3 h4 h6 h7 => .inr (.inl ⟨l', by simp [Region.wanted, hg, yielded_of hf h1 h2 h3 h4], h7, h6⟩)
    split at h
    · exact .inl ⟨l, h, hf⟩
    · rename_i oj hoj
      split at h
      · exact .inl ⟨l, h, hf⟩
      · rename_i t ht
        split at h
        · rename_i hl
          cases want
          · exact skip .tt t oj true hoj ht hl rfl (by simp) hf h
          · exact go .tt t oj hoj ht hl rfl hf h
        · rename_i hl
          cases want
          · exact go .ff t oj hoj ht hl rfl hf h
          · exact skip .ff t oj false hoj ht hl rfl (by simp) hf h
        · rename_i c hl
          cases want <;> cases c
          · exact go (.v (.bool false)) t oj hoj ht hl rfl (hf.dec (s' := .ff) hl rfl) (h.2 rfl)
          · exact skip (.v (.bool true)) t oj true hoj ht hl rfl (by simp) (hf.dec (s' := .tt) hl rfl) (h.1 rfl)
          · exact skip (.v (.bool false)) t oj false hoj ht hl rfl (by simp) (hf.dec (s' := .ff) hl rfl) (h.2 rfl)
          · exact go (.v (.bool true)) t oj hoj ht hl rfl (hf.dec (s' := .tt) hl rfl) (h.1 rfl)
        · rename_i vs hl
          obtain ⟨l2, k1, k2⟩ := setd_sound h hf
          refine .inr (.inr ⟨l2, ?_, k1, k2⟩)
          have hy : yielded ops a.tmps j = none := by
            rw [nth_eq] at hoj
            have h1' : ops[j]? = some oj := by simpa using hoj
            simp [yielded, h1', ht, hf.at_ t _ hl, SV.val]
          simp [Region.wanted, hg, hy]
        · exact .inl ⟨l, h, hf⟩

theorem Done.wp {P : Program} {N : Nat} {hfs : List PH} {w0 : World} {o : Oper} {a : Act} {w : World} {K : L → List Res → Prop} (h : Done P N hfs w0 o a w K)
    {J : Act → World → Prop} {Q : Exit → Act → World → Prop} (hJ : ∀ l' Rs' a' w', K l' Rs' → Fr N a' l' → Mod hfs Rs' w' → Oth w0 w' → J a' w') : o.wp P a w J Q := by
  obtain ⟨v, w', l', Rs', hrun, h1, h2, h3, h4, _⟩ := h
  unfold Oper.wp
  rcases hrun with hrun | ⟨hrun, rfl⟩
  · rw [hrun]; exact hJ _ _ _ _ h1 h2 h3 h4
  · rw [hrun]; exact hJ _ _ _ _ h1 h2 h3 h4

theorem pop_eager {tab : Tab} {l : L} {op : Op} {K : SV → Prop} {X : Prop} (h : pop tab l op K = some X) : eager op = true := by
  unfold pop at h
  split at h <;> try (first | rfl | (cases h; done))
  rename_i c
  split at h <;> try (cases h; done)
  all_goals simp [eager, *]

theorem SX.grow {M : List Nat} {LB LB' : World → Prop} {listed : Array Bool} {i : Nat} {w w' : World} {ops : Array Oper} (hr : i ∈ Region.ready .any ops listed) (hS : SX M LB listed w) (hLB : LB w → LB' w') : SX M LB' (listed.setIfInBounds i true) w' := by
  intro hu
  refine hLB (hS fun m hm => ?_)
  have := hu m hm
  by_cases hmi : m = i
  · subst hmi; exact (mem_ready.1 hr).1
  · rwa [getD_set_ne true (fun e => hmi e.symm)] at this

theorem SX.of_mem {M : List Nat} {LB : World → Prop} {listed : Array Bool} {i : Nat} {w' : World} {ops : Array Oper} (hr : i ∈ Region.ready .any ops listed) (hi : i ∈ M) : SX M LB (listed.setIfInBounds i true) w' := by
  intro hu
  have h1 := hu i hi
  have h0 := (mem_ready.1 hr).1
  rcases Nat.lt_or_ge i listed.size with h' | h'
  · simp [h'] at h1
  · simp [Array.getElem?_eq_none h'] at h0

theorem Holds.keep {w w' : World} (hk : ∀ n, n < w.heap.size → w'.heap[n]? = w.heap[n]?) : ∀ {LBR : List Res}, Holds LBR w → Holds LBR w'
  | [], _ => trivial
  | .blk b T cs :: r, h => ⟨by rw [hk b (Array.getElem?_eq_some_iff.1 h.1).1]; exact h.1, Holds.keep hk h.2⟩
  | .hp _ :: r, h => Holds.keep (LBR := r) hk h

theorem Holds.at_ {w : World} {b : Nat} {T : TypeId} {cs : List Value} : ∀ {LBR : List Res} {j : Nat}, Holds LBR w → LBR[j]? = some (.blk b T cs) → w.heap[b]? = some (.cells cs.toArray T (0, 0))
  | [], _, _, h => by simp at h
  | .blk b' T' cs' :: r, 0, hh, h => by simp at h; obtain ⟨rfl, rfl, rfl⟩ := h; exact hh.1
  | .blk b' T' cs' :: r, j + 1, hh, h => Holds.at_ (LBR := r) (j := j) hh.2 (by simpa using h)
  | .hp _ :: r, 0, hh, h => by simp at h
  | .hp _ :: r, j + 1, hh, h => Holds.at_ (LBR := r) (j := j) hh (by simpa using h)

theorem vcLoad_held {P : Program} {tab : Tab} (ht : TabOk P tab) {LBR : List Res} {T : TypeId} {v : Option SV} {K : Value → Prop} {S : Prop} (h : vcLoad tab LBR T v K S) :
    S ∨ ∃ p u, v = some (.v (.pointer (some p))) ∧ K u ∧ ∀ w, Holds LBR w → (Instr.loadAt T (.pointer (some p))).run P w = .ok u w := by
  unfold vcLoad at h
  split at h
  · rename_i i p hi
    split at h
    · rename_i hsp
      rcases findR_sound h with h | ⟨j, T', cs, h1, h2⟩
      · exact .inl h
      · split at h2
        · rename_i u hu
          refine .inr ⟨p, u, rfl, h2, fun w hw => ?_⟩
          obtain ⟨b, o, s⟩ := p
          simp only at hsp
          subst hsp
          simp [Instr.loadAt, Instr.sureAddr, run_loadVar_at ht hi (hw.at_ h1) hu]
        · exact h2.elim
    · exact .inl h
  · exact .inl h


theorem chk_cons {ops : Array Oper} {M : List Nat} {listed : Array Bool} {i : Nat} {alone : Bool} {r : List (Nat × Bool)} {o : Oper} (ho : ops[i]? = some o) (h : chk ops M listed ((i, alone) :: r) = true) :
    chk ops M (listed.setIfInBounds i true) r = true ∧
    ((alone = true ∧ Region.ready .any ops listed = [i]) ∨ (alone = false ∧ i ∈ Region.ready .any ops listed ∧ Region.free .any ops listed i = true ∧ i ∉ M ∧ (eager o.op = true ∨ (isLoad o.op = true ∧ Ahead ops M i ∧ Unl M listed)))) := by
  cases alone with
  | true =>
    simp only [chk, ho, Bool.and_eq_true, beq_iff_eq] at h
    exact ⟨h.2, .inl ⟨rfl, h.1⟩⟩
  | false =>
    simp only [chk, ho, Bool.and_eq_true, Bool.or_eq_true, Bool.not_eq_true'] at h
    obtain ⟨⟨⟨⟨h1, h2⟩, h3⟩, h4⟩, h5⟩ := h
    refine ⟨h5, .inr ⟨rfl, by simpa using h1, h2, by simpa using h3, ?_⟩⟩
    rcases h4 with c | ⟨⟨c, d⟩, e⟩
    · exact .inl c
    · exact .inr ⟨c, fun m hm => aheadF_sound _ _ _ (List.all_eq_true.1 d m hm), fun m hm => by simpa using List.all_eq_true.1 e m hm⟩

theorem Kpost_no_panic (k : List KI) (c : List PanicEntry) (a : Act) (w : World) : ¬ Kpost E.P E.Q k (.panic c) a w := by
  rw [Kpost_panic]; exact id

/-- One that is taken first. -/
theorem any_first {k : List KI} {ops : Array Oper} {M : List Nat} {LBR : List Res} {LX : World → Prop} {listed : Array Bool} {i : Nat} {r : List (Nat × Bool)} {o : Oper} (ho : ops[i]? = some o)
    {a : Act} {w : World} {v : Value}
    (hk : chk ops M listed ((i, false) :: r) = true) (hs : Region.noSelect ops = true) (hst : Stable LX) (hcl : Closed ops listed) (hS : SX M (LBof LBR LX) listed w)
    (hy : YieldsIf E.P ops (fun _ => True) o v a ∨ (isLoad o.op = true ∧ YieldsIf E.P ops (LBof LBR LX) o v a))
    (hJ : Kpost E.P E.Q (.any ops M LBR LX (listed.setIfInBounds i true) r :: k) .normal (a.put o.dst v) w) :
    wpAnyX E.P ops (Kpost E.P E.Q k) M (LBof LBR LX) ((i, false) :: r).length listed a w := by
  obtain ⟨hc, hf⟩ := chk_cons ho hk
  rcases hf with ⟨hf, _⟩ | ⟨_, hr, h1, h2, h3⟩
  · cases hf
  have first : ∀ {T : World → Prop}, YieldsIf E.P ops T o v a → ((∀ w, T w) ∨ (T = LBof LBR LX ∧ Ahead ops M i ∧ Unl M listed)) → wpAnyX E.P ops (Kpost E.P E.Q k) M (LBof LBR LX) ((i, false) :: r).length listed a w := by
    intro T hy hT
    exact wpAnyX_first ho (Region.noSelect_spec hs) (fun c a w h => absurd h (Kpost_no_panic k c _ _)) h2 r.length listed a w (Region.free_spec ho h1) hr hy hcl hT hS (fun hS' => hJ hc hs hst (hcl.step hr) hS')
  rcases hy with hy | ⟨hl, hy⟩
  · exact first hy (.inl fun _ => trivial)
  · rcases h3 with h3 | ⟨_, ha, hu⟩
    · cases hop : o.op <;> simp_all [isLoad, eager]
    · exact first hy (.inr ⟨rfl, ha, hu⟩)

/-- One that is alone when it comes up. -/
theorem any_alone {k : List KI} {ops : Array Oper} {M : List Nat} {LBR : List Res} {LX : World → Prop} {listed : Array Bool} {i : Nat} {r : List (Nat × Bool)} {o : Oper} (ho : ops[i]? = some o)
    {a : Act} {w : World}
    (hk : chk ops M listed ((i, true) :: r) = true) (hs : Region.noSelect ops = true) (hst : Stable LX) (hcl : Closed ops listed)
    (hJ : i ∈ Region.ready .any ops listed → wpOp E.P ops (Kpost E.P E.Q k) i (fun a' w' => SX M (LBof LBR LX) (listed.setIfInBounds i true) w' ∧ Kpost E.P E.Q (.any ops M LBR LX (listed.setIfInBounds i true) r :: k) .normal a' w') a w) :
    wpAnyX E.P ops (Kpost E.P E.Q k) M (LBof LBR LX) ((i, true) :: r).length listed a w := by
  obtain ⟨hc, hf⟩ := chk_cons ho hk
  rcases hf with ⟨_, h1⟩ | ⟨hf, _⟩
  · refine ⟨fun h => (by rw [h1] at h; cases h), fun j hj => ?_⟩
    rw [h1] at hj
    obtain rfl : j = i := by simpa using hj
    refine wpOp_mono (fun a' w' h => ⟨h.1, h.2 hc hs hst (hcl.step (by rw [h1]; simp)) h.1⟩) (hJ (by rw [h1]; simp))
  · cases hf

/-- **What is left to show suffices.** -/
theorem VC_sound (ht : TabOk E.P E.tab) : ∀ (n : Nat) {k : List KI} {l : L} {Rs : List Res}, VC E n k l Rs → Go E k l Rs := by
  intro n
  induction n with
  | zero => intro k l Rs h; exact h
  | succ n ih =>
    intro k l Rs h
    match k with
    | [] => exact fun a w hf hm hio => vcRet_sound ht hf hm hio h
    | .ops ops [] :: k => exact fun a w hf hm hio => ih (k := k) h a w hf hm hio
    | .ops ops (o :: rest) :: k =>
      intro a w hf hm hio
      simp only [VC] at h
      show wpList E.P ops _ (o :: rest) a w
      unfold wpList
      rcases vcGuard_sound hf h with ⟨l', h1, h2⟩ | ⟨l', hw, h1, h2⟩ | ⟨l', hw, h1, h2⟩
      · have := h1 a w h2 hm hio
        simp only [Kpost, Exit.then] at this
        unfold wpList at this
        exact this
      · rw [if_pos hw]
        rcases vcDo_sound ht h2 hm hio h1 with h1 | h1
        · have := h1 a w h2 hm hio
          simp only [Kpost, Exit.then] at this
          unfold wpList at this
          rwa [if_pos hw] at this
        · exact .inl (h1.wp fun l' Rs' a' w' k1 k2 k3 k4 => ih k1 a' w' k2 k3 k4)
      · rw [if_neg (by simp [hw])]
        exact ih h1 _ w h2 hm hio
    | .blk id :: k => exact fun a w hf hm hio => ih (k := k) h a w hf hm hio
    | .fin J :: k => exact h
    | .any ops M LBR LX listed [] :: k =>
      intro a w hf hm hio hc hs hst hcl hS
      have hr : Region.ready .any ops listed = [] := by simpa [chk] using hc
      exact ⟨hr, ih h a w hf hm hio⟩
    | .any ops M LBR LX listed ((i, alone) :: r) :: k =>
      intro a w hf hm hio hc hs hst hcl hS
      simp only [VC] at h
      split at h
      · exact h a w hf hm hio hc hs hst hcl hS
      · rename_i o hn
        have ho : ops[i]? = some o := by rw [nth_eq] at hn; simpa using hn
        rcases vcGuard_sound hf h with ⟨l', h1, h2⟩ | ⟨l', hw, h1, h2⟩ | ⟨l', hw, h1, h2⟩
        · exact h1 a w h2 hm hio hc hs hst hcl hS
        · -- it is carried out
          unfold vcAny at h1
          split at h1
          · have go : vcDo E.tab E.N E.w0.heap.size l' Rs o (fun l' Rs' => VC E n (.any ops M LBR LX (listed.setIfInBounds i true) r :: k) l' Rs') (Go E (.any ops M LBR LX listed ((i, true) :: r) :: k) l' Rs) →
                (isStore o.op = true → i ∈ M) → wpAnyX E.P ops (Kpost E.P E.Q k) M (LBof LBR LX) ((i, true) :: r).length listed a w := by
              intro h1 hst'
              rcases vcDo_sound ht h2 hm hio h1 with h1 | ⟨v, w', l2, Rs', k1, k2, k3, k4, k5, k6⟩
              · exact h1 a w h2 hm hio hc hs hst hcl hS
              · refine any_alone ho hc hs hst hcl fun hr => ?_
                have hJ := ih k2 _ w' k3 k4 k5
                have hSX : SX M (LBof LBR LX) (listed.setIfInBounds i true) w' := by
                  cases hb : isStore o.op with
                  | true => exact SX.of_mem hr (hst' hb)
                  | false => exact SX.grow hr hS fun hl => ⟨hl.1.keep (k6 hb), hst w w' (k6 hb) hl.2⟩
                unfold wpOp
                simp only [ho, hw, if_true]
                refine .inl ?_
                unfold Oper.wp
                rcases k1 with k1 | ⟨k1, rfl⟩
                · rw [k1]; exact ⟨hSX, hJ⟩
                · rw [k1]; exact ⟨hSX, hJ⟩
            split at h1
            · exact h1 a w h2 hm hio hc hs hst hcl hS
            · rename_i hne
              refine go h1 fun hb => ?_
              cases hb' : memb i M with
              | true => exact memb_spec hb'
              | false => exact (hne hb hb').elim
          · split at h1
            · rename_i X hp
              obtain ⟨s, k1, k2⟩ := pop_sound ht h2 hp h1
              obtain ⟨l2, m1, m2⟩ := setd_sound k1 h2
              exact any_first ho hc hs hst hcl hS (.inl (.inl ⟨hw, fun w' _ => k2 w' o rfl⟩)) (ih m1 _ w m2 hm hio)
            · split at h1
              · rename_i T x hop
                rcases vcLoad_held ht h1 with h1 | ⟨p, u, k1, k2, k3⟩
                · exact h1 a w h2 hm hio hc hs hst hcl hS
                · obtain ⟨l2, m1, m2⟩ := setd_sound k2 h2
                  refine any_first ho hc hs hst hcl hS (.inr ⟨by rw [hop]; rfl, .inl ⟨hw, fun w' hw' => ?_⟩⟩) (ih m1 _ w m2 hm hio)
                  simp only [execOp, hop, ev_sound h2 k1, SV.val, Sem.run_bind, k3 w' hw'.1]
                  rfl
              · exact h1 a w h2 hm hio hc hs hst hcl hS
        · -- its guard says no
          have hJ := ih h1 _ w h2 hm hio
          cases alone with
          | true =>
            refine any_alone ho hc hs hst hcl fun hr => ?_
            unfold wpOp
            simp only [ho, hw]
            exact ⟨SX.grow hr hS id, hJ⟩
          | false => exact any_first ho hc hs hst hcl hS (.inl (.inr ⟨hw, rfl⟩)) hJ
    | .code c :: k =>
      intro a w hf hm hio
      show c.wp E.P _ a w
      cases c with
      | skip => exact wp_skip (ih (k := k) h a w hf hm hio)
      | label l => exact wp_label (ih (k := k) h a w hf hm hio)
      | seq c d => exact wp_seq (ih h a w hf hm hio)
      | block id c => exact wp_block (ih h a w hf hm hio)
      | exit id =>
        simp only [VC] at h
        split at h
        · rename_i k' hk
          exact wp_exit (popExit_sound _ _ _ hk a w (ih h a w hf hm hio))
        · exact h a w hf hm hio
      | cond c t e =>
        simp only [VC] at h
        split at h
        · rename_i hc; exact wp_cond_true (ev_sound hf hc) (ih h a w hf hm hio)
        · rename_i hc; exact wp_cond_false (ev_sound hf hc) (ih h a w hf hm hio)
        · rename_i b hc
          cases b
          · exact wp_cond_false (ev_sound hf hc) (ih (h.2 rfl) a w (hf.dec_ hc rfl) hm hio)
          · exact wp_cond_true (ev_sound hf hc) (ih (h.1 rfl) a w (hf.dec_ hc rfl) hm hio)
        · exact h a w hf hm hio
      | region id ops draw =>
        cases draw with
        | false => exact wp_region_list (ih h a w hf hm hio)
        | true => exact h a w hf hm hio
      | ret =>
        refine wp_ret ?_
        rw [Kpost_ret]
        exact vcRet_sound ht hf hm hio h
      | _ => exact h a w hf hm hio

end
end Go.RX
