/- RX, part 20: cap; the append of so many zeros to nothing. -/
import Derived.Test.YthpcahgdobnljaaGreatRxStab
set_option autoImplicit false
set_option linter.unusedVariables false
set_option linter.unusedSectionVars false
set_option linter.unusedSimpArgs false
namespace Go.RX
open Go Go.RowKit

section
variable {E : Env} {l : L} {Rs : List Res} {o : Oper} {K : L → List Res → Prop} {α : Type} {enc : α → List Value} {k : Nat}

theorem OpTo_cap (ht : TabOk E.P E.tab) {sT e : TypeId} {x : Operand} {A : Option Addr} {n c : Nat} (ho : o.op = .call { callee := .builtin .cap, args := #[x], argTypes := #[sT] }) (hx : ev l x = some (.v (.slice A n c))) (hs : kindIs E.tab sT = some (.slice e))
    (hK : setd E.N o.dst (.v (.int .i64 c)) l fun l' => K l' Rs) : OpTo E l Rs o K :=
  OpTo_run (Qo := fun v Rs' => v = .int .i64 c ∧ Rs' = Rs)
    (fun a w hf hmod hio => by
      obtain ⟨d, hd, hdk⟩ := kind_spec ht hs
      simp only [TK.ok] at hdk; subst hdk
      refine ⟨_, Rs, w, ?_, ⟨rfl, rfl⟩, hmod, Oth.refl w⟩
      simp only [execOp, ho, Sem.run_bind, resolve, invoke, builtin]
      simp [ev_sound hf hx, SV.val, Builtin.cap_, run_underlying' hd, goInt])
    (fun v Rs' ⟨h1, h2⟩ => by subst h1 h2; exact hK)

theorem OpTo_grow (ht : TabOk E.P E.tab) (he : IsEnc enc k) {sT xT e : TypeId} {x y : Operand} {n : Nat} {ti : TyI} (z : α)
    (ho : o.op = .call { callee := .builtin .append, args := #[x, y], argTypes := #[sT, xT] }) (hx : ev l x = some (.v (.slice none 0 0))) (hy : ev l y = some (.v (.int .i64 n)))
    (hs : kindIs E.tab sT = some (.slice e)) (hxT : kindIs E.tab xT = some (.int .i64)) (hti : tlook E.tab e = some ti) (hk : ti.size = k) (hz : ti.zero.cells.toList = enc z) (h0 : 0 < n) (hbd : n * ti.bytes ≤ 140737488355328) (hmx : n ≤ 4611686018427387904)
    (hK : ∀ b c, setd E.N o.dst (.v (.slice (some ⟨b, 0, none⟩) n c)) l fun l' => K l' (own enc k e (some ⟨b, 0, none⟩) c (List.replicate n z) :: Rs)) : OpTo E l Rs o K :=
  OpTo_run (Qo := fun v Rs' => ∃ b c, v = .slice (some ⟨b, 0, none⟩) n c ∧ Rs' = own enc k e (some ⟨b, 0, none⟩) c (List.replicate n z) :: Rs)
    (fun a w hf hmod hio => by
      obtain ⟨d, hd, hdk⟩ := kind_spec ht hs
      simp only [TK.ok] at hdk; subst hdk
      obtain ⟨d', hd', hdk'⟩ := kind_spec ht hxT
      simp only [TK.ok] at hdk'; subst hdk'
      have hok := ht e ti hti
      obtain ⟨inf, hinf, hinfb⟩ : ∃ inf : TypeInfo, (∀ w, (typeInfo e).run E.P w = .ok inf w) ∧ inf.bytes = ti.bytes := by
        obtain ⟨x, hx, e1⟩ := Option.map_eq_some_iff.1 hok.info
        simp only [Prod.mk.injEq] at e1
        exact ⟨x, fun w => by simp [typeInfo, program, Sem.run, hx], e1.2.1⟩
      have hsz : ∀ w, (sizeOf e).run E.P w = .ok k w := fun w => by rw [← hk]; exact hok.run_size
      have hzr : ∀ w, (zeroValue e).run E.P w = .ok ti.zero w := fun w => hok.run_zero
      have hzl : ti.zero.cells.toList.length = k := by rw [hz, he.len]
      have hfit := growslice_fits (bytes := ti.bytes) (need := n) (old := 0) h0 hbd
      let q : Question := .appendCap n 0 e
      let t := w.tape w.drawn q
      have hcut : q.cut t = n + t % (2 ^ 63 - n) := rfl
      have hlt := Nat.mod_lt t (show 0 < 2 ^ 63 - n by omega)
      let nc := q.cut t
      have hnc : n ≤ nc ∧ nc ≤ 9223372036854775807 := by
        show n ≤ q.cut t ∧ q.cut t ≤ _
        rw [hcut]; omega
      let w1 : World := { w with drawn := w.drawn + 1 }
      let tl := (Builtin.zeroCells ti.zero.cells (nc - n)).toList
      let w' : World := { w1 with heap := w.heap.push (.cells ((Builtin.zeroCells ti.zero.cells n).toList ++ tl).toArray e (0, 0)) }
      have hroomE : ∀ n w, (askRoom n).run E.P w = .ok () w := by
        intro n w
        unfold askRoom
        split
        · rfl
        · rfl
      have hzc : (Builtin.zeroCells ti.zero.cells n).toList = (List.replicate n z).flatMap enc := by
        rw [zeroCells_repL _ _ (by rw [hzl]; have := he.pos; exact Nat.ne_of_gt (Nat.mul_pos h0 this)), hz, flat_replicate]
      refine ⟨.slice (some ⟨w.heap.size, 0, none⟩) n nc, _, w', ?_, ⟨w.heap.size, nc, rfl, rfl⟩, hmod.add (h := one w.heap.size (.cells ((Builtin.zeroCells ti.zero.cells n).toList ++ tl).toArray e (0, 0))) (fun m hm' => ?_) (.inr ⟨w.heap.size, [], tl, rfl, by rw [hzc]; simp, ?_, by simp; exact hnc.1, hnc.2⟩) (fun m hm' => one_ne _ (Nat.ne_of_lt hm')) (Sub.one ?_), ⟨rfl, rfl, rfl, by simp [w', w1], by simp [w', w1]⟩⟩
      · have hmax : ¬ (IntKind.i64.max < (n : Int)) := by simp [IntKind.max, IntKind.bits, IntKind.signed]; omega
        have hfit' : ¬ (281474976710656 < Builtin.nextslicecap n 0 * inf.bytes) := by rw [hinfb]; omega
        have hbig : ¬ (281474976710656 < (n : Int) * (inf.bytes : Int)) := by rw [hinfb]; omega
        have hwr : IntKind.i64.wrap (n : Int) = n := (wrap_i64 (n := (n : Int)) (by omega) (by omega)).symm
        have hforced : (Question.appendCap n 0 e).forced = false := rfl
        have hne : ¬ (n * k = 0) := by have := he.pos; exact Nat.ne_of_gt (Nat.mul_pos h0 this)
        simp only [execOp, ho, Sem.run_bind, resolve, invoke, builtin]
        simp [ev_sound hf hx, ev_sound hf hy, SV.val, Builtin.append_, run_underlying' hd, run_underlying' hd', hsz, hinf, hzr, hroomE, asInt, asIntOf, hwr, hbig, Builtin.firstCells, hmax, hfit', hforced, newRow, newObj, Sem.run, hne]
        rw [if_neg (by omega), if_neg (by omega), if_neg (by omega)]
        show Result.ok _ _ = Result.ok _ _
        congr 1
        simp only [World.alloc, w', w1, tl, nc, t, q, World.drew]
        congr 3
        apply Array.toList_inj.1
        simp
      · simp [w', w1, Array.getElem?_push, Nat.ne_of_lt hm']
      · simp only [tl, zeroCells_toList_len]
        rw [← hzl]; simp
      · simp [w'])
    (fun v Rs' ⟨b, c, h1, h2⟩ => by subst h1 h2; exact hK b c)
end

/-! ### a map that is only read -/
theorem Mod.old {w0 w : World} {Rs : List Res} (hm : Mod [heapOf w0] Rs w) : ∀ n, n < w0.heap.size → w.heap[n]? = w0.heap[n]? := fun n hn => by
  have := hm.sub (heapOf w0) (by simp) n (w0.heap[n]) (by simp [heapOf, hn])
  rw [this]; simp [hn]
section
variable {κ ν : Type} [DecidableEq κ] {E : Env} {l : L} {Rs : List Res} {o : Oper} {K : L → List Res → Prop} {kE : κ → Value} {vE : ν → Value}
def MpAt (kE : κ → Value) (vE : ν → Value) (w : World) (b : Nat) (al : List (κ × ν)) : Prop := ∃ es clock, w.heap[b]? = some (.map (es.map (entV kE vE)).toArray clock) ∧ es.map (·.1) = al ∧ EntOk es clock
theorem MpAt.of_mod {hfs : List PH} {w : World} {i b : Nat} {al : List (κ × ν)} (hm : Mod hfs Rs w) (hi : Rs[i]? = some (mpR kE vE b al)) : MpAt kE vE w b al := hm.mp_at hi
theorem MpAt.old {w0 w : World} {b : Nat} {al : List (κ × ν)} (h : MpAt kE vE w0 b al) (hk : ∀ n, n < w0.heap.size → w.heap[n]? = w0.heap[n]?) : MpAt kE vE w b al := by
  obtain ⟨es, clock, h1, h2⟩ := h
  exact ⟨es, clock, by rw [hk b (Array.getElem?_eq_some_iff.1 h1).1]; exact h1, h2⟩
theorem OpTo_lookupF (ht : TabOk E.P E.tab) {T kt et : TypeId} {x ix : Operand} {ok : Bool} {b : Nat} {al : List (κ × ν)} {ti : TyI} {s : SV} (k : κ) (r : Option ν) (hr : aget k al = r) (ho : o.op = .lookup T x ix ok) (hx : ev l x = some (.v (.map (some b)))) (hix : ev l ix = some s) (hs : s.val = kE k)
    (hT : kindIs E.tab T = some (.map kt et)) (hk : KeyOk E.P kt kE) (hti : tlook E.tab et = some ti) (hmp : ∀ w, Mod E.hfs Rs w → Oth E.w0 w → MpAt kE vE w b al)
    (hK : setd E.N o.dst (.v (mapAns ok ti.zero vE r)) l fun l' => K l' Rs) : OpTo E l Rs o K := by
  subst hr
  exact OpTo_run (Qo := fun v Rs' => v = mapAns ok ti.zero vE (aget k al) ∧ Rs' = Rs)
    (fun a w hf hm hio => by
      obtain ⟨es, clock, h1, h2, h3⟩ := hmp w hm hio
      obtain ⟨d, hd, hsame, hkey⟩ := hk.desc
      have hfind := MapKept.run_findKey (P := E.P) (w := w) hd (findNow_mfind (vE := vE) hsame k es 0)
      have hz := (ht _ _ hti).run_zero (w := w)
      have hu := run_underlying' (w := w) (kind_map ht hT)
      refine ⟨_, Rs, w, ?_, ⟨rfl, rfl⟩, hm, Oth.refl w⟩
      have hlook : (Instr.lookup T (.map (some b)) (kE k) ok).run E.P w = .ok (mapAns ok ti.zero vE (aget k al)) w := by
        subst h2
        rcases mfind_spec k es 0 with ⟨m1, m2⟩ | ⟨j, v, m1, m2, _⟩
        · rw [m1] at hfind
          have : aget k (es.map (·.1)) = none := aget_none.2 m2
          cases ok <;> simp [Instr.lookup, hu, MapKept.run_getObj_map h1, MapKept.run_checkKey hd (hkey k), hfind, hz, this, mapAns]
        · rw [m1] at hfind
          cases ok <;> simp [Instr.lookup, hu, MapKept.run_getObj_map h1, MapKept.run_checkKey hd (hkey k), hfind, m2, mapAns]
      have hs' : s.val = kE k := hs
      simp only [execOp, ho, ev_sound hf hx, ev_sound hf hix, hs', Sem.run_bind]
      rw [show (SV.v (Value.map (some b))).val = .map (some b) from rfl, hlook]
      rfl)
    (fun u Rs' ⟨h1, h2⟩ => by subst h1 h2; exact hK)
end

/-- Two new variables, in either order. -/
theorem Go_forkV {E : Env} {ops : Array Oper} {M : List Nat} {LBR : List Res} {LX : World → Prop} {listed : Array Bool} {p : List (Nat × Bool)} {k : List KI} {l : L} {Rs : List Res} (i j : Nat) (p1 p2 : List (Nat × Bool)) {oi oj : Oper}
    (hr : (Region.ready .any ops listed == [i, j]) = true) (n1 : Nat.beq (p1.length + 1) p.length = true) (n2 : Nat.beq (p2.length + 1) p.length = true) (c1 : chk ops M (listed.setIfInBounds i true) p1 = true) (c2 : chk ops M (listed.setIfInBounds j true) p2 = true)
    (hoi : nth ops.toList i = some oi) (hoj : nth ops.toList j = some oj) (gi : wantB ops.toList l oi = true) (gj : wantB ops.toList l oj = true) (sR : ∀ R w, Mod E.hfs (R :: Rs) w → Oth E.w0 w → LBof LBR LX w) (ht : TabOk E.P E.tab)
    (hi : vcDo E.tab E.N E.w0.heap.size l Rs oi (fun l' Rs' => (∃ R, Rs' = R :: Rs) ∧ Go E (.any ops M LBR LX (listed.setIfInBounds i true) p1 :: k) l' Rs') False) (hj : vcDo E.tab E.N E.w0.heap.size l Rs oj (fun l' Rs' => (∃ R, Rs' = R :: Rs) ∧ Go E (.any ops M LBR LX (listed.setIfInBounds j true) p2 :: k) l' Rs') False) :
    Go E (.any ops M LBR LX listed p :: k) l Rs :=
  Go_fork (Ki := fun l' Rs' => (∃ R, Rs' = R :: Rs) ∧ Go E (.any ops M LBR LX (listed.setIfInBounds i true) p1 :: k) l' Rs') (Kj := fun l' Rs' => (∃ R, Rs' = R :: Rs) ∧ Go E (.any ops M LBR LX (listed.setIfInBounds j true) p2 :: k) l' Rs') i j p1 p2 hr n1 n2 c1 c2 hoi hoj gi gj
    (.inr fun l' Rs' ⟨⟨R, h⟩, _⟩ w hm hio => sR R w (h ▸ hm) hio) (.inr fun l' Rs' ⟨⟨R, h⟩, _⟩ w hm hio => sR R w (h ▸ hm) hio) (OpTo_do ht hi) (OpTo_do ht hj) (fun _ _ h => h.2) (fun _ _ h => h.2)
end Go.RX
