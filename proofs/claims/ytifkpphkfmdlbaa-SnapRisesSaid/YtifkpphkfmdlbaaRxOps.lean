/- RX, part 11: operations on slices as laws of a step. -/
import Derived.Test.YtifkpphkfmdlbaaRxRows
set_option autoImplicit false
set_option linter.unusedVariables false
set_option linter.unusedSimpArgs false
namespace Go.RX
open Go Go.RowKit

theorem Go_res {E : Env} {k : List KI} {l : L} {Rs : List Res} (Rs' : List Res) (hR : ∀ w, Mod E.hfs Rs w → Mod E.hfs Rs' w) (h : Go E k l Rs') : Go E k l Rs :=
  fun a w hf hm hio => h a w hf (hR w hm) hio

theorem OpTo_res {E : Env} {l : L} {Rs : List Res} {o : Oper} {K : L → List Res → Prop} (Rs' : List Res) (hR : ∀ w, Mod E.hfs Rs w → Mod E.hfs Rs' w) (h : OpTo E l Rs' o K) : OpTo E l Rs o K :=
  fun a w hf hm hio => h a w hf (hR w hm) hio

section
variable {E : Env} {l : L} {Rs : List Res} {o : Oper} {K : L → List Res → Prop} {α : Type} {enc : α → List Value} {k : Nat}

theorem Mod.own_some {hfs : List PH} {w : World} {T : TypeId} {A : Option Addr} {c : Nat} {xs : List α} {i : Nat} (hm : Mod hfs Rs w) (hi : Rs[i]? = some (own enc k T A c xs)) (hne : xs ≠ []) : ∃ b o, A = some ⟨b, o, none⟩ := by
  obtain ⟨h, h1, _⟩ := hm.get hi
  rcases h1 with ⟨h1, _⟩ | ⟨b, pre, tl, h3, _⟩
  · exact absurd h1 hne
  · exact ⟨b, _, h3⟩

theorem RdW.some {w : World} {A : Option Addr} {xs : List α} (he : IsEnc enc k) (h : RdW w A (xs.flatMap enc)) (hne : xs ≠ []) : ∃ b o, A = some ⟨b, o, none⟩ := by
  rcases h with h | ⟨b, o, h, _⟩
  · exact absurd (he.flat_nil h) hne
  · exact ⟨b, o, h⟩

theorem OpTo_append (ht : TabOk E.P E.tab) (he : IsEnc enc k) {sT xT e : TypeId} {x y : Operand} {A B : Option Addr} {n m c mc : Nat} {xs ys : List α} {ti : TyI} (i : Nat)
    (ho : o.op = .call { callee := .builtin .append, args := #[x, y], argTypes := #[sT, xT] }) (hx : ev l x = some (.v (.slice A n c))) (hy : ev l y = some (.v (.slice B m mc)))
    (hs : kindIs E.tab sT = some (.slice e)) (hxT : kindIs E.tab xT = some (.slice e)) (hti : tlook E.tab e = some ti) (hk : ti.size = k) (hz : ti.zero.cells.toList.length = k)
    (hi : Rs[i]? = some (own enc k e A c xs)) (hn : n = xs.length) (hm : m = ys.length) (hB : ∀ w, Mod E.hfs Rs w → Oth E.w0 w → RdW w B (ys.flatMap enc)) (hbd : (xs.length + ys.length) * ti.bytes ≤ 140737488355328) (hmx : xs.length + ys.length ≤ 9223372036854775807)
    (hK : ∀ A' c', setd E.N o.dst (.v (.slice A' (n + m) c')) l fun l' => K l' (Rs.set i (own enc k e A' c' (xs ++ ys)))) : OpTo E l Rs o K :=
  OpTo_run (Qo := fun v Rs' => ∃ A' c', v = .slice A' (n + m) c' ∧ Rs' = Rs.set i (own enc k e A' c' (xs ++ ys)))
    (fun a w hf hmod hio => by
      subst hn hm
      obtain ⟨A', c', w', h1, h2, h3⟩ := append_own (ty := o.type) (mc := mc) ht he hs hxT hti hk hz hmod hi (hB w hmod hio) hbd hmx
      refine ⟨_, _, w', ?_, ⟨A', c', rfl, rfl⟩, h2, h3⟩
      simp only [execOp, ho, Sem.run_bind, resolve, invoke, builtin]
      simp [ev_sound hf hx, ev_sound hf hy, SV.val, h1])
    (fun v Rs' ⟨A', c', h1, h2⟩ => by subst h1 h2; exact hK A' c')

theorem OpTo_loadRow (ht : TabOk E.P E.tab) (he : IsEnc enc k) {T : TypeId} {x : Operand} {p : Addr} {ti : TyI} {b n off : Nat} {xs : List α} {u : α} (v : Value) (ho : o.op = .load T x) (hx : ev l x = some (.v (.pointer (some p)))) (hti : tlook E.tab T = some ti) (hv : mkV ti.kind.agg (enc u) = v) (hk : ti.size = k) (h1 : ti.kind.agg = false → ti.size = 1)
    (hr : ∀ w, Mod E.hfs Rs w → Oth E.w0 w → RdW w (some ⟨b, off, none⟩) (xs.flatMap enc)) (hu : xs[n]? = some u) (hp : p = ⟨b, off + n * k, none⟩)
    (hK : setd E.N o.dst (.v v) l fun l' => K l' Rs) : OpTo E l Rs o K :=
  OpTo_load ho hx (fun w hm hio => rxLoadRow ht hti he hk h1 (hr w hm hio) hu hp hv) hK

theorem OpTo_loadBlk (ht : TabOk E.P E.tab) {T : TypeId} {x : Operand} {ti : TyI} {b off : Nat} {T' : TypeId} {cs : List Value} {fr : Nat × Nat} (v : Value) (ho : o.op = .load T x) (hx : ev l x = some (.v (.pointer (some ⟨b, off, none⟩)))) (hti : tlook E.tab T = some ti)
    (hb : ∀ w, Mod E.hfs Rs w → Oth E.w0 w → w.heap[b]? = some (.cells cs.toArray T' fr)) (hv : partL ti cs off = some v) (hK : setd E.N o.dst (.v v) l fun l' => K l' Rs) : OpTo E l Rs o K :=
  OpTo_load ho hx (fun w hm hio => run_loadVar_at ht hti (hb w hm hio) hv) hK

theorem OpTo_storeRow (ht : TabOk E.P E.tab) (he : IsEnc enc k) {T T' : TypeId} {x y : Operand} {p : Addr} {s : SV} {ti : TyI} {b n off c : Nat} {xs : List α} {u : α} (i : Nat) (ho : o.op = .store T' x y) (hd : o.dst = none) (hx : ev l x = some (.v (.pointer (some p)))) (hy : ev l y = some s)
    (hti : tlook E.tab T' = some ti) (hk : ti.size = k) (hi : Rs[i]? = some (own enc k T (some ⟨b, off, none⟩) c xs)) (hn : n < xs.length) (hp : p = ⟨b, off + n * k, none⟩) (hv : s.val.cells.toList = enc u)
    (hK : K l (Rs.set i (own enc k T (some ⟨b, off, none⟩) c (xs.set n u)))) : OpTo E l Rs o K :=
  OpTo_skip (Qo := fun Rs' => Rs' = Rs.set i (own enc k T (some ⟨b, off, none⟩) c (xs.set n u))) hd
    (fun a w hf hmod hio => by
      obtain ⟨w', h1, h2, h3⟩ := hmod.own_store ht hti hk he hv hi hn hp
      refine ⟨_, w', ?_, rfl, h2, h3⟩
      simp only [execOp, ho, ev_sound hf hx, ev_sound hf hy, SV.val, Instr.storeAt, Instr.sureAddr, Sem.run_bind, Sem.run_pure, Result.andThen_ok] at h1 ⊢
      rw [h1]
      rfl)
    (fun Rs' h => by subst h; exact hK)

end

theorem Mod.block_old {w0 w : World} {Rs : List Res} (hm : Mod [heapOf w0] Rs w) {b : Nat} {o : Obj} (h : w0.heap[b]? = some o) : w.heap[b]? = some o :=
  hm.sub (heapOf w0) (by simp) b o h

/-- What a function that only reads and makes memory leaves. -/
theorem calls_below {P : Program} {f : FuncId} {args : Array Value} {w0 : World} {v : Value} (h : Calls P f args w0 fun e w' => ∃ u Rs', e = .returned u ∧ u = v ∧ Mod [heapOf w0] Rs' w' ∧ Oth w0 w') :
    Calls P f args w0 fun e w' => e = .returned v ∧ Below w0.heap.size w0 w' :=
  h.mono fun e w' ⟨u, Rs', h1, h2, h3, h4⟩ => ⟨by rw [h1, h2], h3.below h4⟩

/-- Entering a function that only reads and makes memory, and answers 'v'. -/
theorem enterP {P : Program} {tab : Tab} {N : Nat} {res : List ResultVar} {v : Value} {f : FuncId} {fn : Func} {c : Code} (hf : P.funcs[f]? = some fn) (hb : fn.body = some c) (hN : fn.ntmps = N)
    (hres : fn.results.toList = res) {args : List Value} (hlen : Nat.ble args.length N = true) {w0 : World}
    (hgo : Go { P := P, tab := tab, N := N, res := res, hfs := [heapOf w0], w0 := w0, post := fun u _ => u = v } [.code c] (argL args 0) []) :
    Calls P f args.toArray w0 fun e w' => e = .returned v ∧ Below w0.heap.size w0 w' :=
  calls_below (enter hf hb hN hres hlen (Mod.start w0) hgo)

abbrev RdI (w : World) (A : Option Addr) (zs : List Int) : Prop := RdW w A (zs.flatMap (encI .i64))

theorem RdI.some {w : World} {A : Option Addr} {zs : List Int} (h : RdI w A zs) (hne : zs ≠ []) : ∃ b o, A = some ⟨b, o, none⟩ := RdW.some (encI_is .i64) h hne

/-! ### some of the resources, in another order -/
def selG {α : Type} : List Nat → List α → List α
  | [], _ => []
  | j :: r, xs => match nth xs j with
    | some x => x :: selG r xs
    | none => selG r xs
def nodupB : List Nat → Bool
  | [] => true
  | j :: r => !memb j r && nodupB r

theorem selG_mem {α : Type} : ∀ {js : List Nat} {xs : List α} {x : α}, x ∈ selG js xs → ∃ i, i ∈ js ∧ xs[i]? = some x
  | [], _, _, h => by simp [selG] at h
  | j :: r, xs, x, h => by
    simp only [selG] at h
    split at h
    · rename_i y hy
      rw [nth_eq] at hy
      rcases List.mem_cons.1 h with rfl | h
      · exact ⟨j, by simp, hy⟩
      · obtain ⟨i, h1, h2⟩ := selG_mem h
        exact ⟨i, by simp [h1], h2⟩
    · obtain ⟨i, h1, h2⟩ := selG_mem h
      exact ⟨i, by simp [h1], h2⟩

theorem memb_of {i : Nat} : ∀ {l : List Nat}, i ∈ l → memb i l = true
  | j :: r, h => by
    simp only [memb]
    rcases List.mem_cons.1 h with rfl | h
    · simp
    · have := memb_of h
      split <;> simp_all

theorem Sems.nth : ∀ {Rs : List Res} {hs : List PH} {j : Nat} {R : Res}, Sems Rs hs → Rs[j]? = some R → ∃ g, hs[j]? = some g ∧ R.sem g
  | [], _, _, _, _, h => by simp at h
  | _ :: _, [], _, _, h, _ => h.elim
  | _ :: _, x :: _, 0, _, h, hj => by simp at hj; subst hj; exact ⟨x, by simp, h.1⟩
  | _ :: _, _ :: _, j + 1, _, h, hj => by
    obtain ⟨g, h1, h2⟩ := Sems.nth (j := j) h.2 (by simpa using hj)
    exact ⟨g, by simpa using h1, h2⟩

theorem Sems.sel : ∀ {js : List Nat} {Rs : List Res} {hs : List PH}, Sems Rs hs → Sems (selG js Rs) (selG js hs)
  | [], _, _, _ => trivial
  | j :: r, Rs, hs, h => by
    have ih := Sems.sel (js := r) h
    have hl := h.length
    simp only [selG]
    cases hj : RX.nth Rs j with
    | some R =>
      rw [nth_eq] at hj
      obtain ⟨g, h1, h2⟩ := h.nth hj
      simp only [nth_eq, h1]
      exact ⟨h2, ih⟩
    | none =>
      rw [nth_eq] at hj
      have : hs[j]? = none := by
        rw [List.getElem?_eq_none_iff] at hj ⊢; omega
      simp only [nth_eq, this]
      exact ih

theorem Wf.sel {hfs : List PH} {w : World} : ∀ {js : List Nat} {hs : List PH}, nodupB js = true → Wf (hs ++ hfs) w → Wf (selG js hs ++ hfs) w
  | [], hs, _, h => ⟨fun g hg => h.1 g (by simp [selG] at hg; simp [hg]), (List.pairwise_append.1 h.2).2.1⟩
  | j :: r, hs, hn, h => by
    simp only [nodupB, Bool.and_eq_true, Bool.not_eq_true'] at hn
    have ih := Wf.sel (js := r) hn.2 h
    simp only [selG]
    cases hj : nth hs j with
    | none => exact ih
    | some g =>
      rw [nth_eq] at hj
      have hg : g ∈ hs := List.mem_of_getElem? hj
      refine Wf.cons.2 ⟨h.1 g (by simp [hg]), fun g2 h2 => ?_, ih⟩
      rcases List.mem_append.1 h2 with h2 | h2
      · obtain ⟨i, h3, h4⟩ := selG_mem h2
        have hne : i ≠ j := fun e => by
          subst e
          rw [memb_of h3] at hn
          exact absurd hn.1 (by simp)
        have hp := (List.pairwise_append.1 h.2).1
        obtain ⟨hjl, ej⟩ := List.getElem?_eq_some_iff.1 hj
        obtain ⟨hil, ei⟩ := List.getElem?_eq_some_iff.1 h4
        rw [List.pairwise_iff_getElem] at hp
        rcases Nat.lt_or_gt_of_ne hne with hlt | hlt
        · have := hp i j hil hjl hlt
          rw [ei, ej] at this
          exact this.symm
        · have := hp j i hjl hil hlt
          rwa [ei, ej] at this
      · exact (List.pairwise_append.1 h.2).2.2 g hg g2 h2

theorem Mod.sel {hfs : List PH} {Rs : List Res} {w : World} (js : List Nat) (hn : nodupB js = true) (hm : Mod hfs Rs w) : Mod hfs (selG js Rs) w := by
  obtain ⟨hs, h1, h2⟩ := hm
  exact ⟨_, h1.sel, h2.sel hn⟩

theorem Go_sel {E : Env} {k : List KI} {l : L} {Rs : List Res} (js : List Nat) (hn : nodupB js = true) (h : Go E k l (selG js Rs)) : Go E k l Rs :=
  fun a w hf hm hio => h a w hf (hm.sel js hn) hio

/-- A block of known cells reads as them. -/
theorem Mod.blk_rd {hfs : List PH} {Rs : List Res} {w : World} {i b : Nat} {T : TypeId} {cs : List Value} (hm : Mod hfs Rs w) (hi : Rs[i]? = some (.blk b T cs)) : RdW w (some ⟨b, 0, none⟩) cs :=
  .inr ⟨b, 0, rfl, fun j v hv => by simp [World.cell?, hm.blk_at hi, hv]⟩

/-- What is answered, of some of the resources. -/
def Some_ (Q : Value → List Res → Prop) : Value → List Res → Prop := fun v Rs => ∃ Rs', Q v Rs' ∧ ∀ hfs w, Mod hfs Rs w → Mod hfs Rs' w
theorem Some_.sel {Q : Value → List Res → Prop} {v : Value} {Rs : List Res} (js : List Nat) (hn : nodupB js = true) (h : Q v (selG js Rs)) : Some_ Q v Rs := ⟨_, h, fun _ _ hm => hm.sel js hn⟩

/-- Entering a function that answers with memory of its own. -/
theorem enterN {P : Program} {tab : Tab} {N : Nat} {res : List ResultVar} {Q : Value → List Res → Prop} {f : FuncId} {fn : Func} {c : Code} (hf : P.funcs[f]? = some fn) (hb : fn.body = some c) (hN : fn.ntmps = N)
    (hres : fn.results.toList = res) {args : List Value} (hlen : Nat.ble args.length N = true) {w0 : World} {hfs : List PH} {Rs : List Res} (hm : Mod hfs Rs w0)
    (hgo : Go { P := P, tab := tab, N := N, res := res, hfs := hfs, w0 := w0, post := Some_ Q } [.code c] (argL args 0) Rs) :
    Calls P f args.toArray w0 fun e w' => ∃ v Rs', e = .returned v ∧ Q v Rs' ∧ Mod hfs Rs' w' ∧ Oth w0 w' :=
  (enter hf hb hN hres hlen hm hgo).mono fun _ w' ⟨v, _, h1, ⟨Rs', h2, h3⟩, h4, h5⟩ => ⟨v, Rs', h1, h2, h3 _ _ h4, h5⟩

/-- An operation alone that turns no resource: the condition stays. -/
theorem Go_aloneS {E : Env} {ops : Array Oper} {M : List Nat} {LBR : List Res} {LX : World → Prop} {listed : Array Bool} {i : Nat} {r : List (Nat × Bool)} {o : Oper} {k : List KI} {l : L} {Rs : List Res}
    (ho : nth ops.toList i = some o) (hg : wantB ops.toList l o = true) (hS : ∀ w, Mod E.hfs Rs w → Oth E.w0 w → LBof LBR LX w)
    (h : OpTo E l Rs o fun l' Rs' => Rs' = Rs ∧ Go E (.any ops M LBR LX (listed.setIfInBounds i true) r :: k) l' Rs') : Go E (.any ops M LBR LX listed ((i, true) :: r) :: k) l Rs :=
  Go_alone ho hg (.inr fun _ _ h w => by rw [h.1]; exact hS w) h fun _ _ h => h.2

end Go.RX
