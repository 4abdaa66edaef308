/- RX, part 11: operations on slices as laws of a step. -/
import Derived.Test.YthpcahgdobnljaaGreatRxRows
set_option autoImplicit false
set_option linter.unusedVariables false
set_option linter.unusedSimpArgs false
namespace Go.RX
open Go Go.RowKit

theorem Go_res {E : Env} {k : List KI} {l : L} {Rs : List Res} (Rs' : List Res) (hR : ∀ w, Mod E.hfs Rs w → Mod E.hfs Rs' w) (h : Go E k l Rs') : Go E k l Rs :=
  fun a w hf hm hio => h a w hf (hR w hm) hio

theorem OpTo_res {E : Env} {l : L} {Rs : List Res} {o : Oper} {K : L → List Res → Prop} (Rs' : List Res) (hR : ∀ w, Mod E.hfs Rs w → Mod E.hfs Rs' w) (h : OpTo E l Rs' o K) : OpTo E l Rs o K :=
  fun a w hf hm hio => h a w hf (hR w hm) hio

section
variable {E : Env} {l : L} {Rs : List Res} {o : Oper} {K : L → List Res → Prop} {α : Type} {enc : α → List Value} {k : Nat}

theorem Mod.own_some {hfs : List PH} {w : World} {T : TypeId} {A : Option Addr} {c : Nat} {xs : List α} {i : Nat} (hm : Mod hfs Rs w) (hi : Rs[i]? = some (own enc k T A c xs)) (hne : xs ≠ []) : ∃ b o, A = some ⟨b, o, none⟩ := by
  obtain ⟨h, h1, _⟩ := hm.get hi
  rcases h1 with ⟨h1, _⟩ | ⟨b, pre, tl, h3, _⟩
  · exact absurd h1 hne
  · exact ⟨b, _, h3⟩

theorem RdW.some {w : World} {A : Option Addr} {xs : List α} (he : IsEnc enc k) (h : RdW w A (xs.flatMap enc)) (hne : xs ≠ []) : ∃ b o, A = some ⟨b, o, none⟩ := by
  rcases h with h | ⟨b, o, h, _⟩
  · exact absurd (he.flat_nil h) hne
  · exact ⟨b, o, h⟩

theorem OpTo_append (ht : TabOk E.P E.tab) (he : IsEnc enc k) {sT xT e : TypeId} {x y : Operand} {A B : Option Addr} {n m c mc : Nat} {xs ys : List α} {ti : TyI} (i : Nat)
    (ho : o.op = .call { callee := .builtin .append, args := #[x, y], argTypes := #[sT, xT] }) (hx : ev l x = some (.v (.slice A n c))) (hy : ev l y = some (.v (.slice B m mc)))
    (hs : kindIs E.tab sT = some (.slice e)) (hxT : kindIs E.tab xT = some (.slice e)) (hti : tlook E.tab e = some ti) (hk : ti.size = k) (hz : ti.zero.cells.toList.length = k)
    (hi : Rs[i]? = some (own enc k e A c xs)) (hn : n = xs.length) (hm : m = ys.length) (hB : ∀ w, Mod E.hfs Rs w → Oth E.w0 w → RdW w B (ys.flatMap enc)) (hbd : (xs.length + ys.length) * ti.bytes ≤ 140737488355328) (hmx : xs.length + ys.length ≤ 9223372036854775807)
    (hK : ∀ A' c', setd E.N o.dst (.v (.slice A' (n + m) c')) l fun l' => K l' (Rs.set i (own enc k e A' c' (xs ++ ys)))) : OpTo E l Rs o K :=
  OpTo_run (Qo := fun v Rs' => ∃ A' c', v = .slice A' (n + m) c' ∧ Rs' = Rs.set i (own enc k e A' c' (xs ++ ys)))
    (fun a w hf hmod hio => by
      subst hn hm
      obtain ⟨A', c', w', h1, h2, h3⟩ := append_own (ty := o.type) (mc := mc) ht he hs hxT hti hk hz hmod hi (hB w hmod hio) hbd hmx
      refine ⟨_, _, w', ?_, ⟨A', c', rfl, rfl⟩, h2, h3⟩
      simp only [execOp, ho, Sem.run_bind, resolve, invoke, builtin]
      simp [ev_sound hf hx, ev_sound hf hy, SV.val, h1])
    (fun v Rs' ⟨A', c', h1, h2⟩ => by subst h1 h2; exact hK A' c')

theorem OpTo_loadRow (ht : TabOk E.P E.tab) (he : IsEnc enc k) {T : TypeId} {x : Operand} {p : Addr} {ti : TyI} {b n off : Nat} {xs : List α} {u : α} (v : Value) (ho : o.op = .load T x) (hx : ev l x = some (.v (.pointer (some p)))) (hti : tlook E.tab T = some ti) (hv : mkV ti.kind.agg (enc u) = v) (hk : ti.size = k) (h1 : ti.kind.agg = false → ti.size = 1)
    (hr : ∀ w, Mod E.hfs Rs w → Oth E.w0 w → RdW w (some ⟨b, off, none⟩) (xs.flatMap enc)) (hu : xs[n]? = some u) (hp : p = ⟨b, off + n * k, none⟩)
    (hK : setd E.N o.dst (.v v) l fun l' => K l' Rs) : OpTo E l Rs o K :=
  OpTo_load ho hx (fun w hm hio => rxLoadRow ht hti he hk h1 (hr w hm hio) hu hp hv) hK

theorem OpTo_loadBlk (ht : TabOk E.P E.tab) {T : TypeId} {x : Operand} {ti : TyI} {b off : Nat} {T' : TypeId} {cs : List Value} {fr : Nat × Nat} (v : Value) (ho : o.op = .load T x) (hx : ev l x = some (.v (.pointer (some ⟨b, off, none⟩)))) (hti : tlook E.tab T = some ti)
    (hb : ∀ w, Mod E.hfs Rs w → Oth E.w0 w → w.heap[b]? = some (.cells cs.toArray T' fr)) (hv : partL ti cs off = some v) (hK : setd E.N o.dst (.v v) l fun l' => K l' Rs) : OpTo E l Rs o K :=
  OpTo_load ho hx (fun w hm hio => run_loadVar_at ht hti (hb w hm hio) hv) hK

theorem OpTo_storeRow (ht : TabOk E.P E.tab) (he : IsEnc enc k) {T T' : TypeId} {x y : Operand} {p : Addr} {s : SV} {ti : TyI} {b n off c : Nat} {xs : List α} {u : α} (i : Nat) (ho : o.op = .store T' x y) (hd : o.dst = none) (hx : ev l x = some (.v (.pointer (some p)))) (hy : ev l y = some s)
    (hti : tlook E.tab T' = some ti) (hk : ti.size = k) (hi : Rs[i]? = some (own enc k T (some ⟨b, off, none⟩) c xs)) (hn : n < xs.length) (hp : p = ⟨b, off + n * k, none⟩) (hv : s.val.cells.toList = enc u)
    (hK : K l (Rs.set i (own enc k T (some ⟨b, off, none⟩) c (xs.set n u)))) : OpTo E l Rs o K :=
  OpTo_skip (Qo := fun Rs' => Rs' = Rs.set i (own enc k T (some ⟨b, off, none⟩) c (xs.set n u))) hd
    (fun a w hf hmod hio => by
      obtain ⟨w', h1, h2, h3⟩ := hmod.own_store ht hti hk he hv hi hn hp
      refine ⟨_, w', ?_, rfl, h2, h3⟩
      simp only [execOp, ho, ev_sound hf hx, ev_sound hf hy, SV.val, Instr.storeAt, Instr.sureAddr, Sem.run_bind, Sem.run_pure, Result.andThen_ok] at h1 ⊢
      rw [h1]
      rfl)
    (fun Rs' h => by subst h; exact hK)

end

theorem Mod.block_old {w0 w : World} {Rs : List Res} (hm : Mod [heapOf w0] Rs w) {b : Nat} {o : Obj} (h : w0.heap[b]? = some o) : w.heap[b]? = some o :=
  hm.sub (heapOf w0) (by simp) b o h

/-- What a function that only reads and makes memory leaves. -/
theorem calls_below {P : Program} {f : FuncId} {args : Array Value} {w0 : World} {v : Value} (h : Calls P f args w0 fun e w' => ∃ u Rs', e = .returned u ∧ u = v ∧ Mod [heapOf w0] Rs' w' ∧ Oth w0 w') :
    Calls P f args w0 fun e w' => e = .returned v ∧ BelowD w0.heap.size w0 w' :=
  h.mono fun e w' ⟨u, Rs', h1, h2, h3, h4⟩ => ⟨by rw [h1, h2], h3.below h4⟩

/-- Entering a function that only reads and makes memory, and answers 'v'. -/
theorem enterP {P : Program} {tab : Tab} {N : Nat} {res : List ResultVar} {v : Value} {f : FuncId} {fn : Func} {c : Code} (hf : P.funcs[f]? = some fn) (hb : fn.body = some c) (hN : fn.ntmps = N)
    (hres : fn.results.toList = res) {args : List Value} (hlen : Nat.ble args.length N = true) {w0 : World}
    (hgo : Go { P := P, tab := tab, N := N, res := res, hfs := [heapOf w0], w0 := w0, post := fun u _ => u = v } [.code c] (argL args 0) []) :
    Calls P f args.toArray w0 fun e w' => e = .returned v ∧ BelowD w0.heap.size w0 w' :=
  calls_below (enter hf hb hN hres hlen (Mod.start w0) hgo)

abbrev RdI (w : World) (A : Option Addr) (zs : List Int) : Prop := RdW w A (zs.flatMap (encI .i64))

theorem RdI.some {w : World} {A : Option Addr} {zs : List Int} (h : RdI w A zs) (hne : zs ≠ []) : ∃ b o, A = some ⟨b, o, none⟩ := RdW.some (encI_is .i64) h hne

/-! ### some of the resources, in another order -/
def selG {α : Type} : List Nat → List α → List α
  | [], _ => []
  | j :: r, xs => match nth xs j with
    | some x => x :: selG r xs
    | none => selG r xs
def nodupB : List Nat → Bool
  | [] => true
  | j :: r => !memb j r && nodupB r

theorem selG_mem {α : Type} : ∀ {js : List Nat} {xs : List α} {x : α}, x ∈ selG js xs → ∃ i, i ∈ js ∧ xs[i]? = some x
  | [], _, _, h => by simp [selG] at h
  | j :: r, xs, x, h => by
    simp only [selG] at h
    split at h
    · rename_i y hy
      rw [nth_eq] at hy
      rcases List.mem_cons.1 h with rfl | h
      · exact ⟨j, by simp, hy⟩
      · obtain ⟨i, h1, h2⟩ := selG_mem h
        exact ⟨i, by simp [h1], h2⟩
    · obtain ⟨i, h1, h2⟩ := selG_mem h
      exact ⟨i, by simp [h1], h2⟩

theorem memb_of {i : Nat} : ∀ {l : List Nat}, i ∈ l → memb i l = true
  | j :: r, h => by
    simp only [memb]
    rcases List.mem_cons.1 h with rfl | h
    · simp
    · have := memb_of h
      split <;> simp_all

theorem Sems.nth : ∀ {Rs : List Res} {hs : List PH} {j : Nat} {R : Res}, Sems Rs hs → Rs[j]? = some R → ∃ g, hs[j]? = some g ∧ R.sem g
  | [], _, _, _, _, h => by simp at h
  | _ :: _, [], _, _, h, _ => h.elim
  | _ :: _, x :: _, 0, _, h, hj => by simp at hj; subst hj; exact ⟨x, by simp, h.1⟩
  | _ :: _, _ :: _, j + 1, _, h, hj => by
    obtain ⟨g, h1, h2⟩ := Sems.nth (j := j) h.2 (by simpa using hj)
    exact ⟨g, by simpa using h1, h2⟩

theorem Sems.sel : ∀ {js : List Nat} {Rs : List Res} {hs : List PH}, Sems Rs hs → Sems (selG js Rs) (selG js hs)
  | [], _, _, _ => trivial
  | j :: r, Rs, hs, h => by
    have ih := Sems.sel (js := r) h
    have hl := h.length
    simp only [selG]
    cases hj : RX.nth Rs j with
    | some R =>
      rw [nth_eq] at hj
      obtain ⟨g, h1, h2⟩ := h.nth hj
      simp only [nth_eq, h1]
      exact ⟨h2, ih⟩
    | none =>
      rw [nth_eq] at hj
      have : hs[j]? = none := by
        rw [List.getElem?_eq_none_iff] at hj ⊢; omega
      simp only [nth_eq, this]
      exact ih

theorem Wf.sel {hfs : List PH} {w : World} : ∀ {js : List Nat} {hs : List PH}, nodupB js = true → Wf (hs ++ hfs) w → Wf (selG js hs ++ hfs) w
  | [], hs, _, h => ⟨fun g hg => h.1 g (by simp [selG] at hg; simp [hg]), (List.pairwise_append.1 h.2).2.1⟩
  | j :: r, hs, hn, h => by
    simp only [nodupB, Bool.and_eq_true, Bool.not_eq_true'] at hn
    have ih := Wf.sel (js := r) hn.2 h
    simp only [selG]
    cases hj : nth hs j with
    | none => exact ih
    | some g =>
      rw [nth_eq] at hj
      have hg : g ∈ hs := List.mem_of_getElem? hj
      refine Wf.cons.2 ⟨h.1 g (by simp [hg]), fun g2 h2 => ?_, ih⟩
      rcases List.mem_append.1 h2 with h2 | h2
      · obtain ⟨i, h3, h4⟩ := selG_mem h2
        have hne : i ≠ j := fun e => by
          subst e
          rw [memb_of h3] at hn
          exact absurd hn.1 (by simp)
        have hp := (List.pairwise_append.1 h.2).1
        obtain ⟨hjl, ej⟩ := List.getElem?_eq_some_iff.1 hj
        obtain ⟨hil, ei⟩ := List.getElem?_eq_some_iff.1 h4
        rw [List.pairwise_iff_getElem] at hp
        rcases Nat.lt_or_gt_of_ne hne with hlt | hlt
        · have := hp i j hil hjl hlt
          rw [ei, ej] at this
          exact this.symm
        · have := hp j i hjl hil hlt
          rwa [ei, ej] at this
      · exact (List.pairwise_append.1 h.2).2.2 g hg g2 h2

theorem Mod.sel {hfs : List PH} {Rs : List Res} {w : World} (js : List Nat) (hn : nodupB js = true) (hm : Mod hfs Rs w) : Mod hfs (selG js Rs) w := by
  obtain ⟨hs, h1, h2⟩ := hm
  exact ⟨_, h1.sel, h2.sel hn⟩

theorem Go_sel {E : Env} {k : List KI} {l : L} {Rs : List Res} (js : List Nat) (hn : nodupB js = true) (h : Go E k l (selG js Rs)) : Go E k l Rs :=
  fun a w hf hm hio => h a w hf (hm.sel js hn) hio

/-- A block of known cells reads as them. -/
theorem Mod.blk_rd {hfs : List PH} {Rs : List Res} {w : World} {i b : Nat} {T : TypeId} {cs : List Value} (hm : Mod hfs Rs w) (hi : Rs[i]? = some (.blk b T cs)) : RdW w (some ⟨b, 0, none⟩) cs :=
  .inr ⟨b, 0, rfl, fun j v hv => by simp [World.cell?, hm.blk_at hi, hv]⟩

/-- What is answered, of some of the resources. -/
def Some_ (Q : Value → List Res → Prop) : Value → List Res → Prop := fun v Rs => ∃ Rs', Q v Rs' ∧ ∀ hfs w, Mod hfs Rs w → Mod hfs Rs' w
theorem Some_.sel {Q : Value → List Res → Prop} {v : Value} {Rs : List Res} (js : List Nat) (hn : nodupB js = true) (h : Q v (selG js Rs)) : Some_ Q v Rs := ⟨_, h, fun _ _ hm => hm.sel js hn⟩

/-- Entering a function that answers with memory of its own. -/
theorem enterN {P : Program} {tab : Tab} {N : Nat} {res : List ResultVar} {Q : Value → List Res → Prop} {f : FuncId} {fn : Func} {c : Code} (hf : P.funcs[f]? = some fn) (hb : fn.body = some c) (hN : fn.ntmps = N)
    (hres : fn.results.toList = res) {args : List Value} (hlen : Nat.ble args.length N = true) {w0 : World} {hfs : List PH} {Rs : List Res} (hm : Mod hfs Rs w0)
    (hgo : Go { P := P, tab := tab, N := N, res := res, hfs := hfs, w0 := w0, post := Some_ Q } [.code c] (argL args 0) Rs) :
    Calls P f args.toArray w0 fun e w' => ∃ v Rs', e = .returned v ∧ Q v Rs' ∧ Mod hfs Rs' w' ∧ Oth w0 w' :=
  (enter hf hb hN hres hlen hm hgo).mono fun _ w' ⟨v, _, h1, ⟨Rs', h2, h3⟩, h4, h5⟩ => ⟨v, Rs', h1, h2, h3 _ _ h4, h5⟩

/-- An operation alone that turns no resource: the condition stays. -/
theorem Go_aloneS {E : Env} {ops : Array Oper} {M : List Nat} {LBR : List Res} {LX : World → Prop} {listed : Array Bool} {i : Nat} {r : List (Nat × Bool)} {o : Oper} {k : List KI} {l : L} {Rs : List Res}
    (ho : nth ops.toList i = some o) (hg : wantB ops.toList l o = true) (hS : ∀ w, Mod E.hfs Rs w → Oth E.w0 w → LBof LBR LX w)
    (h : OpTo E l Rs o fun l' Rs' => Rs' = Rs ∧ Go E (.any ops M LBR LX (listed.setIfInBounds i true) r :: k) l' Rs') : Go E (.any ops M LBR LX listed ((i, true) :: r) :: k) l Rs :=
  Go_alone ho hg (.inr fun _ _ h w => by rw [h.1]; exact hS w) h fun _ _ h => h.2

/-! ### clear -/
theorem flat_replicate {α : Type} {enc : α → List Value} (z : α) : ∀ m, (List.replicate m z).flatMap enc = repL m (enc z)
  | 0 => rfl
  | m + 1 => by rw [List.replicate_succ, List.flatMap_cons, flat_replicate z m]; rfl

theorem zeroCells_repL (z : Array Value) (m : Nat) (h : m * z.toList.length ≠ 0) : (Builtin.zeroCells z m).toList = repL m z.toList := by
  have := repL_range z.toList m h
  simp only [Array.toArray_toList] at this
  rw [Builtin.zeroCells]
  have e : z.toList.length = z.size := by simp
  rw [e] at this
  rw [this]

theorem Mod.own_clear {P : Program} {tab : Tab} {hfs : List PH} {Rs : List Res} {w : World} {α : Type} {enc : α → List Value} {k : Nat} (ht : TabOk P tab) (he : IsEnc enc k) {sT e ty : TypeId} {ti : TyI} (hs : kindIs tab sT = some (.slice e)) (hti : tlook tab e = some ti) {z : α} (hz : ti.zero.cells.toList = enc z)
    {A : Option Addr} {c mc : Nat} {xs : List α} {i j m : Nat} (hm : Mod hfs Rs w) (hi : Rs[i]? = some (own enc k e A c xs)) (hj : j + m = xs.length) :
    ∃ w', (Builtin.clear_ #[sT] ty #[.slice (slA A c j k) m mc]).run P w = .ok (.tuple #[]) w' ∧ Mod hfs (Rs.set i (own enc k e A c (xs.take j ++ List.replicate m z))) w' ∧ Oth w w' := by
  obtain ⟨d, hd, hdk⟩ := kind_spec ht hs
  simp only [TK.ok] at hdk; subst hdk
  by_cases hm0 : m = 0
  · subst hm0
    refine ⟨w, ?_, ?_, Oth.refl w⟩
    · cases h : slA A c j k <;> simp [Builtin.clear_, run_underlying' hd]
    · have : xs.take j = xs := List.take_of_length_le (by omega)
      simpa [this, Mod.set_same hi] using hm
  obtain ⟨h, h1, h2, hset⟩ := hm.open_ hi
  rcases h1 with ⟨rfl, rfl, _⟩ | ⟨b, pre, tl, h3, h4, h5, h6, h7⟩
  · simp at hj; omega
  subst h3
  have hb : w.heap[b]? = some (.cells (pre ++ xs.flatMap enc ++ tl).toArray e (0, 0)) := h2 b _ (by rw [h4]; exact one_same _ _)
  have hxl := he.flat_len xs
  have hadd : slA (some ⟨b, pre.length, none⟩) c j k = some ⟨b, pre.length + j * k, none⟩ := by
    rw [slA, if_neg (by omega), Option.map_some, ← addA_eq]; rfl
  have hzk : ti.zero.cells.toList.length = k := by rw [hz, he.len]
  have hpos := he.pos
  have hne : m * ti.zero.cells.toList.length ≠ 0 := by rw [hzk]; exact Nat.mul_ne_zero hm0 (by omega)
  have hcells := zeroCells_repL ti.zero.cells m hne
  have hflat : repL m ti.zero.cells.toList = (List.replicate m z).flatMap enc := by rw [flat_replicate, hz]
  have hfl : ((List.replicate m z).flatMap enc).length = m * k := by rw [he.flat_len]; simp
  have hjm : xs.length * k = j * k + m * k := by rw [← hj, Nat.add_mul]
  obtain ⟨w', e1, e2, e3, e4, e5, e6, e7⟩ := run_storeCells (P := P) ((List.replicate m z).flatMap enc) 0 (w := w) (b := b) (off := pre.length + j * k) hb (by simp [hxl, hfl]; omega) he.flat_one
  refine ⟨w', ?_, hset _ _ w' (.inr ⟨b, pre, tl, rfl, rfl, ?_, ?_, h7⟩) (Sub.one ?_) (fun n _ hn0 => ?_), ⟨e5, e6, e7.1, by omega, by omega⟩⟩
  · rw [hadd]
    obtain ⟨m', rfl⟩ : ∃ m', m = m' + 1 := ⟨m - 1, by omega⟩
    have hz0 := (ht e ti hti).run_zero (w := w)
    simp [Builtin.clear_, run_underlying' hd, hz0]
    rw [hcells, hflat, e1]
    rfl
  · rw [h5]; congr 1; simp; omega
  · simp; omega
  · rw [e2]
    congr 2
    apply Array.toList_inj.1
    simp only [Nat.add_zero, List.flatMap_append, hfl]
    have ht1 := he.flat_take xs j
    have hx : xs.flatMap enc = (xs.take j).flatMap enc ++ (xs.drop j).flatMap enc := by rw [← List.flatMap_append, List.take_append_drop]
    have hl1 : ((xs.take j).flatMap enc).length = j * k := by rw [he.flat_len, List.length_take, Nat.min_eq_left (by omega)]
    have hl2 : ((xs.drop j).flatMap enc).length = m * k := by rw [he.flat_len, List.length_drop, show xs.length - j = m by omega]
    rw [hx]
    have hp1 : (pre ++ (xs.take j).flatMap enc).length = pre.length + j * k := by simp [hl1]
    have ea : pre ++ ((xs.take j).flatMap enc ++ (xs.drop j).flatMap enc) ++ tl = (pre ++ (xs.take j).flatMap enc) ++ ((xs.drop j).flatMap enc ++ tl) := by simp [List.append_assoc]
    rw [ea, ← hp1, List.take_append_of_le_length (Nat.le_refl _), List.take_length, List.drop_append, List.drop_of_length_le (l := pre ++ _) (by omega), List.nil_append]
    rw [show (pre ++ (xs.take j).flatMap enc).length + m * k - (pre ++ (xs.take j).flatMap enc).length = m * k from by omega, ← hl2, List.drop_append_of_le_length (Nat.le_refl _), List.drop_length]
    simp [List.append_assoc]
  · have hne2 : n ≠ b := fun e => by subst e; rw [h4, one_same] at hn0; cases hn0
    exact ⟨e3 n hne2, one_ne _ hne2⟩

theorem OpTo_clear {E : Env} {l : L} {Rs : List Res} {o : Oper} {K : L → List Res → Prop} {α : Type} {enc : α → List Value} {k : Nat} (ht : TabOk E.P E.tab) (he : IsEnc enc k) {sT e : TypeId} {x : Operand} {A B : Option Addr} {c n mc m j : Nat} {xs : List α} {ti : TyI} (z : α) (i : Nat)
    (ho : o.op = .call { callee := .builtin .clear, args := #[x], argTypes := #[sT] }) (hx : ev l x = some (.v (.slice B n mc))) (hs : kindIs E.tab sT = some (.slice e)) (hti : tlook E.tab e = some ti) (hz : ti.zero.cells.toList = enc z)
    (hi : Rs[i]? = some (own enc k e A c xs)) (hB : B = slA A c j k) (hn : n = m) (hj : j + m = xs.length) (hK : setd E.N o.dst (.v (.tuple #[])) l fun l' => K l' (Rs.set i (own enc k e A c (xs.take j ++ List.replicate m z)))) : OpTo E l Rs o K :=
  OpTo_run (Qo := fun v Rs' => v = .tuple #[] ∧ Rs' = Rs.set i (own enc k e A c (xs.take j ++ List.replicate m z)))
    (fun a w hf hmod hio => by
      subst hB hn
      obtain ⟨w', h1, h2, h3⟩ := hmod.own_clear (ty := o.type) (mc := mc) ht he hs hti hz hi hj
      refine ⟨_, _, w', ?_, ⟨rfl, rfl⟩, h2, h3⟩
      simp only [execOp, ho, Sem.run_bind, resolve, invoke, builtin]
      simp [ev_sound hf hx, SV.val, h1])
    (fun v Rs' ⟨h1, h2⟩ => by subst h1 h2; exact hK)

/-! ### two that may come in either order -/
theorem OpTo_do {E : Env} (ht : TabOk E.P E.tab) {l : L} {Rs : List Res} {o : Oper} {K : L → List Res → Prop} (h : vcDo E.tab E.N E.w0.heap.size l Rs o K False) : OpTo E l Rs o K := by
  intro a w hf hm hio
  rcases vcDo_sound ht hf hm hio h with h | h
  · exact h.elim
  · exact h.wp fun l' Rs' a' w' h1 h2 h3 h4 => ⟨l', Rs', h1, h2, h3, h4⟩

theorem Go_fork {E : Env} {ops : Array Oper} {M : List Nat} {LBR : List Res} {LX : World → Prop} {listed : Array Bool} {p : List (Nat × Bool)} {k : List KI} {l : L} {Rs : List Res} (i j : Nat) (p1 p2 : List (Nat × Bool)) {oi oj : Oper} {Ki Kj : L → List Res → Prop}
    (hr : (Region.ready .any ops listed == [i, j]) = true) (n1 : Nat.beq (p1.length + 1) p.length = true) (n2 : Nat.beq (p2.length + 1) p.length = true) (c1 : chk ops M (listed.setIfInBounds i true) p1 = true) (c2 : chk ops M (listed.setIfInBounds j true) p2 = true)
    (hoi : nth ops.toList i = some oi) (hoj : nth ops.toList j = some oj) (gi : wantB ops.toList l oi = true) (gj : wantB ops.toList l oj = true)
    (si : memb i M = true ∨ ∀ l' Rs', Ki l' Rs' → ∀ w, Mod E.hfs Rs' w → Oth E.w0 w → LBof LBR LX w) (sj : memb j M = true ∨ ∀ l' Rs', Kj l' Rs' → ∀ w, Mod E.hfs Rs' w → Oth E.w0 w → LBof LBR LX w)
    (hi : OpTo E l Rs oi Ki) (hj : OpTo E l Rs oj Kj) (hKi : ∀ l' Rs', Ki l' Rs' → Go E (.any ops M LBR LX (listed.setIfInBounds i true) p1 :: k) l' Rs') (hKj : ∀ l' Rs', Kj l' Rs' → Go E (.any ops M LBR LX (listed.setIfInBounds j true) p2 :: k) l' Rs') :
    Go E (.any ops M LBR LX listed p :: k) l Rs := by
  intro a w hf hm hio hc hs hst hcl hS0
  have hr' : Region.ready .any ops listed = [i, j] := by simpa using hr
  have hl1 := Nat.eq_of_beq_eq_true n1
  have hl2 := Nat.eq_of_beq_eq_true n2
  have hoi' : ops[i]? = some oi := by rw [nth_eq] at hoi; simpa using hoi
  have hoj' : ops[j]? = some oj := by rw [nth_eq] at hoj; simpa using hoj
  have hri : i ∈ Region.ready .any ops listed := by rw [hr']; simp
  have hrj : j ∈ Region.ready .any ops listed := by rw [hr']; simp
  show wpAnyX E.P ops (Kpost E.P E.Q k) M (LBof LBR LX) p.length listed a w
  rw [← hl1]
  refine ⟨fun h => (by rw [hr'] at h; cases h), fun m hm' => ?_⟩
  rw [hr'] at hm'
  simp only [List.mem_cons, List.not_mem_nil, or_false] at hm'
  rcases hm' with rfl | rfl
  · unfold wpOp
    simp only [hoi', wantB_sound hf gi, if_true]
    refine .inl (Oper.wp_to (hi a w hf hm hio) fun a' w' ⟨l', Rs', h1, h2, h3, h4⟩ => ?_)
    have hS : SX M (LBof LBR LX) (listed.setIfInBounds m true) w' := by
      rcases si with si | si
      · exact SX.of_mem hri (memb_spec si)
      · exact fun _ => si l' Rs' h1 w' h3 h4
    exact ⟨hS, hKi l' Rs' h1 a' w' h2 h3 h4 c1 hs hst (hcl.step hri) hS⟩
  · unfold wpOp
    simp only [hoj', wantB_sound hf gj, if_true]
    refine .inl (Oper.wp_to (hj a w hf hm hio) fun a' w' ⟨l', Rs', h1, h2, h3, h4⟩ => ?_)
    have hS : SX M (LBof LBR LX) (listed.setIfInBounds m true) w' := by
      rcases sj with sj | sj
      · exact SX.of_mem hrj (memb_spec sj)
      · exact fun _ => sj l' Rs' h1 w' h3 h4
    have := hKj l' Rs' h1 a' w' h2 h3 h4 c2 hs hst (hcl.step hrj) hS
    rw [← hl1] at hl2
    rw [Nat.add_right_cancel hl2] at this
    exact ⟨hS, this⟩

/-! ### memory that nobody writes any more -/
def RoBag (L : List (Option Addr × List Value)) : HP := fun h => ∀ p ∈ L, RdH h p.1 p.2
abbrev ro (L : List (Option Addr × List Value)) : Res := .hp (RoBag L)

theorem Mod.ro_nil {hfs : List PH} {Rs : List Res} {w : World} (hm : Mod hfs Rs w) : Mod hfs (ro [] :: Rs) w :=
  hm.add (h := emp) (fun _ _ => rfl) (fun p hp => by simp at hp) (fun _ _ => rfl) (Sub.emp w)

theorem Mod.ro_rd {hfs : List PH} {Rs : List Res} {w : World} {i : Nat} {L : List (Option Addr × List Value)} (hm : Mod hfs Rs w) (hi : Rs[i]? = some (ro L)) {A : Option Addr} {cs : List Value} (h : (A, cs) ∈ L) : RdW w A cs := by
  obtain ⟨g, h1, h2⟩ := hm.get hi
  exact (h1 _ h).world h2

theorem Mod.ro_sub {hfs : List PH} {Rs : List Res} {w : World} {i : Nat} {L : List (Option Addr × List Value)} (L' : List (Option Addr × List Value)) (hm : Mod hfs Rs w) (hi : Rs[i]? = some (ro L)) (h : ∀ p ∈ L', p ∈ L) : Mod hfs (Rs.set i (ro L')) w :=
  hm.turn hi fun g h1 h2 => ⟨g, fun p hp => h1 p (h p hp), h2, fun n _ hn => ⟨rfl, hn⟩⟩

def uni (a b : PH) : PH := fun n => (a n).or (b n)

theorem RdH.uniL {a b : PH} {A : Option Addr} {cs : List Value} (h : RdH a A cs) : RdH (uni a b) A cs := by
  rcases h with h | ⟨b', o, h1, c, T, fr, h2, h3⟩
  · exact .inl h
  · exact .inr ⟨b', o, h1, c, T, fr, by simp [uni, h2], h3⟩
theorem RdH.uniR {a b : PH} (hd : Dj a b) {A : Option Addr} {cs : List Value} (h : RdH b A cs) : RdH (uni a b) A cs := by
  rcases h with h | ⟨b', o, h1, c, T, fr, h2, h3⟩
  · exact .inl h
  · refine .inr ⟨b', o, h1, c, T, fr, ?_, h3⟩
    rcases hd b' with h | h
    · simp [uni, h, h2]
    · rw [h] at h2; cases h2

/-- Two of which both are only read are one. -/
theorem Mod.merge {hfs : List PH} {Rs : List Res} {w : World} {R1 R2 : Res} {R : HP} (hR : ∀ a b, R1.sem a → R2.sem b → Dj a b → R (uni a b)) (hm : Mod hfs (R1 :: R2 :: Rs) w) : Mod hfs (.hp R :: Rs) w := by
  obtain ⟨hs, h1, h2⟩ := hm
  match hs, h1 with
  | a :: b :: r, ⟨k1, k2, k3⟩ =>
    have h3 := Wf.cons.1 h2
    have h4 := Wf.cons.1 h3.2.2
    have hd : Dj a b := h3.2.1 b (by simp)
    refine ⟨uni a b :: r, ⟨hR a b k1 k2 hd, k3⟩, Wf.cons.2 ⟨fun n o e => ?_, fun g hg n => ?_, h4.2.2⟩⟩
    · simp only [uni] at e
      cases ha : a n with
      | some x => rw [ha] at e; simp at e; subst e; exact h3.1 n _ ha
      | none => rw [ha] at e; simp at e; exact h4.1 n o e
    · rcases h3.2.1 g (by simp at hg ⊢; exact .inr hg) n with h | h
      · rcases h4.2.1 g (by simpa using hg) n with h' | h'
        · left; simp [uni, h, h']
        · exact .inr h'
      · exact .inr h

theorem Mod.ro_add {α : Type} {enc : α → List Value} {k : Nat} {T : TypeId} {A : Option Addr} {c : Nat} {xs : List α} {hfs : List PH} {Rs : List Res} {w : World} {L : List (Option Addr × List Value)} (hm : Mod hfs (own enc k T A c xs :: ro L :: Rs) w) :
    Mod hfs (ro ((A, xs.flatMap enc) :: L) :: Rs) w :=
  hm.merge fun a b h1 h2 hd p hp => by
    rcases List.mem_cons.1 hp with rfl | hp
    · exact (OwnS.rd h1).uniL
    · exact (h2 p hp).uniR hd

theorem Mod.ro_join {hfs : List PH} {Rs : List Res} {w : World} {L L' : List (Option Addr × List Value)} (hm : Mod hfs (ro L :: ro L' :: Rs) w) : Mod hfs (ro (L ++ L') :: Rs) w :=
  hm.merge fun a b h1 h2 hd p hp => by
    rcases List.mem_append.1 hp with hp | hp
    · exact (h1 p hp).uniL
    · exact (h2 p hp).uniR hd

/-- Memory that the frame keeps readable. -/
def RdF (hfs : List PH) (A : Option Addr) (cs : List Value) : Prop := ∀ Rs w, Mod hfs Rs w → RdW w A cs
theorem RdF.of_heap {w0 : World} {A : Option Addr} {cs : List Value} (h : RdW w0 A cs) : RdF [heapOf w0] A cs := fun _ _ hm => h.mod hm
theorem RdF.of_split {hb hfs : List PH} {Rr : List Res} (hsp : ∀ a' w', Mod (hb ++ hfs) a' w' → Mod hfs (a' ++ Rr) w') {A : Option Addr} {cs : List Value} (h : ∀ Rs w, Mod hfs (Rs ++ Rr) w → RdW w A cs) : RdF (hb ++ hfs) A cs :=
  fun Rs w hm => h Rs w (hsp Rs w hm)
theorem getElem?_append_add {α : Type} (a b : List α) (i : Nat) : (a ++ b)[a.length + i]? = b[i]? := by
  rw [List.getElem?_append_right (by omega)]; congr 1; omega

/-! ### a place where ways come together -/
theorem Go_cut {E : Env} {c : Code} {k : List KI} {l : L} {Rs : List Res} {σ : Type} (Lf : σ → L) (Rf : σ → List Res) (Inv : σ → Prop) (h1 : Go E (.code c :: .fin (fun a w => ∃ s, Inv s ∧ Fr E.N a (Lf s) ∧ Mod E.hfs (Rf s) w ∧ Oth E.w0 w) :: k) l Rs)
    (h2 : ∀ s, Inv s → Go E k (Lf s) (Rf s)) : Go E (.code c :: k) l Rs := by
  intro a w hf hm hio
  show c.wp E.P (Kpost E.P E.Q k) a w
  refine wp_mono (show c.wp E.P _ a w from h1 a w hf hm hio) fun e a w hq => ?_
  cases e with
  | normal =>
    obtain ⟨s, k1, k2, k3, k4⟩ := hq
    exact h2 s k1 a w k2 k3 k4
  | _ => exact hq

theorem Go_put {E : Env} {k : List KI} {l : L} {Rs : List Res} {σ : Type} {Lf : σ → L} {Rf : σ → List Res} {Inv : σ → Prop} (s : σ) (h1 : Inv s) (h3 : subL (Lf s) l) (h4 : ∀ w, Mod E.hfs Rs w → Mod E.hfs (Rf s) w) :
    Go E (.fin (fun a w => ∃ s, Inv s ∧ Fr E.N a (Lf s) ∧ Mod E.hfs (Rf s) w ∧ Oth E.w0 w) :: k) l Rs :=
  fun _ w hf hm hio => ⟨s, h1, subL_sound h3 hf, h4 w hm, hio⟩

/-- A call (of M) and a new variable, in either order. -/
theorem Go_forkA {E : Env} {ops : Array Oper} {M : List Nat} {LBR : List Res} {LX : World → Prop} {listed : Array Bool} {p : List (Nat × Bool)} {k : List KI} {l : L} {Rs : List Res} (i j : Nat) (p1 p2 : List (Nat × Bool)) {oi oj : Oper}
    (hr : (Region.ready .any ops listed == [i, j]) = true) (n1 : Nat.beq (p1.length + 1) p.length = true) (n2 : Nat.beq (p2.length + 1) p.length = true) (c1 : chk ops M (listed.setIfInBounds i true) p1 = true) (c2 : chk ops M (listed.setIfInBounds j true) p2 = true)
    (hoi : nth ops.toList i = some oi) (hoj : nth ops.toList j = some oj) (gi : wantB ops.toList l oi = true) (gj : wantB ops.toList l oj = true) (mi : memb i M = true) (sj : ∀ R w, Mod E.hfs (R :: Rs) w → Oth E.w0 w → LBof LBR LX w)
    (hi : OpTo E l Rs oi fun l' Rs' => Go E (.any ops M LBR LX (listed.setIfInBounds i true) p1 :: k) l' Rs') (hj : vcDo E.tab E.N E.w0.heap.size l Rs oj (fun l' Rs' => (∃ R, Rs' = R :: Rs) ∧ Go E (.any ops M LBR LX (listed.setIfInBounds j true) p2 :: k) l' Rs') False) (ht : TabOk E.P E.tab) :
    Go E (.any ops M LBR LX listed p :: k) l Rs :=
  Go_fork (Ki := fun l' Rs' => Go E (.any ops M LBR LX (listed.setIfInBounds i true) p1 :: k) l' Rs') (Kj := fun l' Rs' => (∃ R, Rs' = R :: Rs) ∧ Go E (.any ops M LBR LX (listed.setIfInBounds j true) p2 :: k) l' Rs') i j p1 p2 hr n1 n2 c1 c2 hoi hoj gi gj (.inl mi)
    (.inr fun l' Rs' ⟨⟨R, h⟩, _⟩ w hm hio => sj R w (h ▸ hm) hio) hi (OpTo_do ht hj) (fun _ _ h => h) (fun _ _ h => h.2)

/-- An operation alone; the condition is shown anew. -/
theorem Go_aloneL {E : Env} {ops : Array Oper} {M : List Nat} {LBR : List Res} {LX : World → Prop} {listed : Array Bool} {i : Nat} {r : List (Nat × Bool)} {o : Oper} {k : List KI} {l : L} {Rs : List Res}
    (ho : nth ops.toList i = some o) (hg : wantB ops.toList l o = true) (h : OpTo E l Rs o fun l' Rs' => (∀ w, Mod E.hfs Rs' w → Oth E.w0 w → LBof LBR LX w) ∧ Go E (.any ops M LBR LX (listed.setIfInBounds i true) r :: k) l' Rs') :
    Go E (.any ops M LBR LX listed ((i, true) :: r) :: k) l Rs :=
  Go_alone ho hg (.inr fun _ _ h w => h.1 w) h fun _ _ h => h.2
theorem Mod.blk_behind {hfs : List PH} {Rs Rr : List Res} {w : World} (hm : Mod hfs (Rs ++ Rr) w) {i b : Nat} {T : TypeId} {cs : List Value} (hi : Rr[i]? = some (.blk b T cs)) : w.heap[b]? = some (.cells cs.toArray T (0, 0)) :=
  hm.blk_at (i := Rs.length + i) (by rw [getElem?_append_add]; exact hi)
theorem Mod.own_behind {α : Type} {enc : α → List Value} {k : Nat} {T : TypeId} {A : Option Addr} {c : Nat} {xs : List α} {hfs : List PH} {Rs Rr : List Res} {w : World} (hm : Mod hfs (Rs ++ Rr) w) {i : Nat} (hi : Rr[i]? = some (own enc k T A c xs)) : RdW w A (xs.flatMap enc) :=
  hm.own_rd (i := Rs.length + i) (by rw [getElem?_append_add]; exact hi)
theorem Mod.ro_behind {hfs : List PH} {Rs Rr : List Res} {w : World} (hm : Mod hfs (Rs ++ Rr) w) {i : Nat} {L : List (Option Addr × List Value)} (hi : Rr[i]? = some (ro L)) {A : Option Addr} {cs : List Value} (h : (A, cs) ∈ L) : RdW w A cs :=
  hm.ro_rd (i := Rs.length + i) (by rw [getElem?_append_add]; exact hi) h

theorem Holds.of_idx {hfs : List PH} {w : World} {Rs : List Res} (js : List Nat) (hm : Mod hfs Rs w) : Holds (selG js Rs) w :=
  Holds.of_mod hm fun R hR => by
    obtain ⟨i, _, h⟩ := selG_mem hR
    exact List.mem_of_getElem? h

/-! ### an operation on two values, by a law of its own -/
theorem bin_exec {E : Env} {l : L} {o : Oper} {op : BinOp} {t u : TypeId} {x y : Operand} {s s2 : SV} {v : Value} (ho : o.op = .binOp op t x y u) (hx : ev l x = some s) (hy : ev l y = some s2) (hrun : ∀ w, (binRun op t x y s.val s2.val).run E.P w = .ok v w)
    (a : Act) (hf : Fr E.N a l) (w : World) : (execOp a.eval o).run E.P w = .ok (.value v) w := by
  have := hrun w
  simp only [binRun] at this
  simp only [execOp, ho, ev_sound hf hx, ev_sound hf hy]
  rw [Sem.run_bind, this]
  rfl

theorem OpTo_bin {E : Env} {l : L} {Rs : List Res} {o : Oper} {K : L → List Res → Prop} {op : BinOp} {t u : TypeId} {x y : Operand} {s s2 : SV} (v : Value) (ho : o.op = .binOp op t x y u) (hx : ev l x = some s) (hy : ev l y = some s2)
    (hrun : ∀ w, (binRun op t x y s.val s2.val).run E.P w = .ok v w) (hK : setd E.N o.dst (.v v) l fun l' => K l' Rs) : OpTo E l Rs o K :=
  OpTo_run (Qo := fun u Rs' => u = v ∧ Rs' = Rs) (fun a w hf hm _ => ⟨v, Rs, w, bin_exec ho hx hy hrun a hf w, ⟨rfl, rfl⟩, hm, Oth.refl w⟩) (fun u Rs' ⟨h1, h2⟩ => by subst h1 h2; exact hK)

theorem Go_firstB {E : Env} {ops : Array Oper} {M : List Nat} {LBR : List Res} {LX : World → Prop} {listed : Array Bool} {i : Nat} {r : List (Nat × Bool)} {o : Oper} {k : List KI} {l : L} {Rs : List Res} {op : BinOp} {t u : TypeId} {x y : Operand} {s s2 : SV} (v : Value)
    (ho : nth ops.toList i = some o) (hop : o.op = .binOp op t x y u) (hg : wantB ops.toList l o = true) (hx : ev l x = some s) (hy : ev l y = some s2) (hrun : ∀ w, (binRun op t x y s.val s2.val).run E.P w = .ok v w)
    (hK : setd E.N o.dst (.v v) l fun l' => Go E (.any ops M LBR LX (listed.setIfInBounds i true) r :: k) l' Rs) : Go E (.any ops M LBR LX listed ((i, false) :: r) :: k) l Rs := by
  intro a w hf hm hio hc hs hst hcl hS0
  have ho' : ops[i]? = some o := by rw [nth_eq] at ho; simpa using ho
  obtain ⟨l2, m1, m2⟩ := setd_sound hK hf
  exact any_first ho' hc hs hst hcl hS0 (.inl (.inl ⟨wantB_sound hf hg, fun w' _ => bin_exec hop hx hy hrun a hf w'⟩)) (m1 _ w m2 hm hio)

end Go.RX
