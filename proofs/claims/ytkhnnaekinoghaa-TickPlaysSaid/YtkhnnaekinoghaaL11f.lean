/- The law TickPlays: what its run comes to. -/
import Derived.Test.YtkhnnaekinoghaaR11
import Derived.Test.YtkhnnaekinoghaaRxActs
import Derived.KernelRfl
set_option autoImplicit false
set_option linter.unusedVariables false
set_option linter.unusedSimpArgs false
namespace Go.Proofs.Ytkhnnaekinoghaa
open Go.RX Go Go.RowKit Go.ChangeShapes Go.WideShapes Go.ChangeAt

structure TkActM where
  d_ : Int
  mx : Int
  opA : Option Addr
  opC : Nat
  op : List Int
  at_ : Int
  n : Int
def encA : TkActM → List Value := fun x => [.int .u8 x.d_, .int .u8 x.mx, .slice x.opA x.op.length x.opC, .int .i64 x.at_, .int .i64 x.n]
theorem encA_is : IsEnc encA 5 := ⟨fun _ => rfl, fun x v hv => by simp [encA] at hv; rcases hv with rfl | rfl | rfl | rfl | rfl <;> rfl, by decide⟩
abbrev mkA (x : TkActM) : Value := .agg #[.int .u8 x.d_, .int .u8 x.mx, .slice x.opA x.op.length x.opC, .int .i64 x.at_, .int .i64 x.n]
def okA (w : World) (x : TkActM) : Prop := (Lit.int .u8 x.d_).wf = true ∧ (Lit.int .u8 x.mx).wf = true ∧ RdW w x.opA (x.op.flatMap (encI .u8)) ∧ (∀ z ∈ x.op, (Lit.int .u8 z).wf = true) ∧ x.op.length ≤ x.opC ∧ x.opC ≤ maxLen ∧ (Lit.int .i64 x.at_).wf = true ∧ (Lit.int .i64 x.n).wf = true
theorem rd_acts {H : Type} {enc : TypeId × Value → H} {w : World} {base : Nat} {sp : Nat → Bool} {held : Bool} {r : Reach} {b0 : Nat} {v : Value} {d : DataW H} {ps : List MemPlace} (hval : Value.okWide Try.prog w r b0 47 v) (hd : DataW.Trod enc Try.prog w base sp held 47 v d ps) :
    ∃ (A : Option Addr) (c : Nat) (xs : List TkActM), v = .slice A xs.length c ∧ RdW w A (xs.flatMap encA) ∧ (∀ x ∈ xs, okA w x) ∧ xs.length ≤ c ∧ c ≤ maxLen :=
  rd_slice encA_is Try.underlying47 (by kernel_rfl) (fun cs y fuel h => by
    obtain ⟨hl, hf⟩ := rd_struct tabOk (T := 53) rfl h
    rw [show Try.prog.cellsOf 53 = 5 from by kernel_rfl] at hl
    match cs, hl with
    | [v0, v1, v2, v3, v4], _ =>
      obtain ⟨y0, m0, h0⟩ := hf 0 0 5 rfl
      rw [show Try.prog.cellsOf 5 = 1 from by kernel_rfl] at h0
      obtain ⟨z0, e0, _, q0⟩ := DataW.trod_int Try.underlying5 h0
      simp at e0
      subst e0
      obtain ⟨y1, m1, h1⟩ := hf 1 1 5 rfl
      rw [show Try.prog.cellsOf 5 = 1 from by kernel_rfl] at h1
      obtain ⟨z1, e1, _, q1⟩ := DataW.trod_int Try.underlying5 h1
      simp at e1
      subst e1
      obtain ⟨y2, m2, h2⟩ := hf 2 2 36 rfl
      rw [show Try.prog.cellsOf 36 = 1 from by kernel_rfl] at h2
      obtain ⟨A2, c2, z2, e2, q2⟩ := rd_cells (encI_is .u8) (Q := fun z => (Lit.int .u8 z).wf = true) Try.underlying36 (by kernel_rfl) (fun cs y fuel h => by obtain ⟨n, h1, _, h3⟩ := DataW.trod_int Try.underlying5 h; exact ⟨n, h1, h3⟩) h2
      simp at e2
      subst e2
      obtain ⟨y3, m3, h3⟩ := hf 3 3 2 rfl
      rw [show Try.prog.cellsOf 2 = 1 from by kernel_rfl] at h3
      obtain ⟨z3, e3, _, q3⟩ := DataW.trod_int Try.underlying2 h3
      simp at e3
      subst e3
      obtain ⟨y4, m4, h4⟩ := hf 4 4 2 rfl
      rw [show Try.prog.cellsOf 2 = 1 from by kernel_rfl] at h4
      obtain ⟨z4, e4, _, q4⟩ := DataW.trod_int Try.underlying2 h4
      simp at e4
      subst e4
      exact ⟨⟨z0, z1, A2, c2, z2, z3, z4⟩, rfl, q0, q1, q2.1, q2.2.1, q2.2.2.1, q2.2.2.2, q3, q4⟩) hval hd

/-! ### alike -/
abbrev KeyT := Int × Int × List Int × Int
def keyT (x : TickM) : KeyT := (x.n, x.mx, x.op, x.t)
structure Alk (i : Nat) (ts us : List TickM) (last : Int) : Prop where
  same : ts.map keyT = us.map keyT
  fit : TkFit ts
  bd : 0 ≤ last ∧ last ≤ i
  le : ∀ t ∈ ts, t.n ≤ last
  len : ts.length ≤ i
theorem Alk.ulen {i : Nat} {ts us : List TickM} {last : Int} (h : Alk i ts us last) : us.length = ts.length := by have := congrArg List.length h.same; simpa using this.symm
theorem Alk.ufit {i : Nat} {ts us : List TickM} {last : Int} (h : Alk i ts us last) : TkFit us := fun y hy => by
  have : keyT y ∈ ts.map keyT := by rw [h.same]; exact List.mem_map_of_mem hy
  obtain ⟨x, hx, e⟩ := List.mem_map.1 this
  have hf := h.fit x hx
  simp only [keyT, Prod.mk.injEq] at e
  rw [e.2.1, e.2.2.1] at hf; exact hf
theorem Alk.up {i : Nat} {ts us : List TickM} {last : Int} (h : Alk i ts us last) : Alk (i + 1) ts us last := ⟨h.same, h.fit, by have := h.bd; omega, h.le, by have := h.len; omega⟩
theorem Alk.add {i : Nat} {ts us : List TickM} {last : Int} (h : Alk i ts us last) (mx : Int) (op : List Int) (q : Int) : tkAdd ts mx op q = tkAdd us mx op q := by
  have hg : (ts.getLast?).map keyT = (us.getLast?).map keyT := by rw [← List.getLast?_map, ← List.getLast?_map, h.same]
  have hf : tkFollows ts mx op q = tkFollows us mx op q := by
    unfold tkFollows
    cases h1 : ts.getLast? with
    | none => cases h2 : us.getLast? with
      | none => rfl
      | some y => rw [h1, h2] at hg; cases hg
    | some x => cases h2 : us.getLast? with
      | none => rw [h1, h2] at hg; cases hg
      | some y =>
        rw [h1, h2] at hg
        simp only [Option.map_some, Option.some.injEq, keyT, Prod.mk.injEq] at hg
        simp only [hg.2.1, hg.2.2.1, hg.2.2.2]
  simp only [tkAdd, h.ulen, hf]
theorem Alk.snoc {i : Nat} {ts us : List TickM} {last : Int} (h : Alk i ts us last) {x y : TickM} (hk : keyT x = keyT y) (hx : x.n = last + 1) (hm : 0 ≤ x.mx ∧ x.mx ≤ 9223372036854775807) (ho : x.op.length ≤ 1000000) : Alk (i + 1) (ts ++ [x]) (us ++ [y]) (last + 1) :=
  ⟨by simp [h.same, hk], fun t ht => by
    rcases List.mem_append.1 ht with ht | ht
    · exact h.fit t ht
    · simp at ht; subst ht; exact ⟨hm, ho⟩, by have := h.bd; omega, fun t ht => by
    rcases List.mem_append.1 ht with ht | ht
    · have := h.le t ht; omega
    · simp at ht; subst ht; omega, by have := h.len; simp; omega⟩
theorem Alk.trim {i : Nat} {ts us : List TickM} {last : Int} (h : Alk i ts us last) (below : Int) : Alk (i + 1) (ts.filter fun x => !tkGone below last x) (us.filter (keepR below last)) last := by
  have e1 : (ts.filter fun x => !tkGone below last x) = ts.filter (keepR below last) := List.filter_congr fun t ht => by
    have := h.le t ht
    simp only [tkGone, keepR]
    by_cases h1 : t.n < below <;> by_cases h2 : t.n < last <;> simp [h1, h2] <;> omega
  refine ⟨?_, fun t ht => h.fit t (List.mem_filter.1 ht).1, by have := h.bd; omega, fun t ht => h.le t (List.mem_filter.1 ht).1, by have := h.len; have := List.length_filter_le (fun x => !tkGone below last x) ts; omega⟩
  rw [e1]
  have hk : ∀ l : List TickM, (l.filter (keepR below last)).map keyT = (l.map keyT).filter fun k => decide (below ≤ k.1) || decide (k.1 = last) := fun l => by
    rw [List.filter_map]; rfl
  rw [hk, hk, h.same]
theorem Alk.trimN {i : Nat} {ts us : List TickM} {last : Int} (h : Alk i ts us last) (below : Int) : ((ts.length : Int) - (ts.filter fun x => !tkGone below last x).length) = (us.length : Int) - (us.filter (keepR below last)).length := by
  have := (h.trim below).ulen
  rw [h.ulen, this]

/-- What is found, in both. -/
def fndR (p : TickM → Bool) (us : List TickM) (x : TickM) (fl : Bool) : Prop := ∃ y, fndV p us = .tuple #[mkT y, .bool fl] ∧ keyT x = keyT y ∧ (y ∈ us ∨ y = zeroT) ∧ x.op.length ≤ 1000000
def uniQ (p : TickM → Bool) (us : List TickM) : Value → List Res → Prop := fun v Rs => ∃ x fl, v = .tuple #[mkT x, .bool fl] ∧ Rs = [own (encI .i64) 1 2 x.A x.c x.op] ∧ fndR p us x fl
theorem Alk.find {i : Nat} {ts us : List TickM} {last : Int} (h : Alk i ts us last) (P : KeyT → Bool) : (ts.find? (P ∘ keyT)).map keyT = (us.find? (P ∘ keyT)).map keyT := by
  rw [← List.find?_map, ← List.find?_map, h.same]
theorem uni_of {i : Nat} {ts us : List TickM} {last : Int} (h : Alk i ts us last) (P : KeyT → Bool) {p : TickM → Bool} (hp : p = P ∘ keyT) {w0 : World} {f : FuncId} {args : Array Value}
    (hc : Calls Try.prog f args w0 fun e w' => ∃ v Rs', e = .returned v ∧ someQ p ts v Rs' ∧ Mod [heapOf w0] Rs' w' ∧ Oth w0 w') :
    Calls Try.prog f args w0 fun e w' => ∃ v Rs', e = .returned v ∧ uniQ p us v Rs' ∧ Mod [heapOf w0] Rs' w' ∧ Oth w0 w' := by
  have hfd := h.find P
  rw [← hp] at hfd
  refine hc.mono ?_
  rintro e w' ⟨v, Rs', rfl, hq, hm, ho⟩
  rcases hq with ⟨h1, rfl, rfl⟩ | ⟨x, A, c, h1, rfl, rfl⟩
  · have h2 : us.find? p = none := by rw [h1] at hfd; cases h3 : us.find? p with | none => rfl | some y => rw [h3] at hfd; cases hfd
    exact ⟨_, _, rfl, ⟨zeroT, false, rfl, rfl, zeroT, by rw [fndV, h2], rfl, .inr rfl, by decide⟩, hm.own_nil none, ho⟩
  · rw [h1] at hfd
    cases h3 : us.find? p with
    | none => rw [h3] at hfd; cases hfd
    | some y =>
      rw [h3] at hfd
      simp only [Option.map_some, Option.some.injEq] at hfd
      exact ⟨_, _, rfl, ⟨⟨x.n, x.mx, A, c, x.op, x.t⟩, true, rfl, rfl, y, by rw [fndV, h3], hfd, .inl (List.mem_of_find?_eq_some h3), (h.fit x (List.mem_of_find?_eq_some h1)).2⟩, hm, ho⟩

theorem tmod_nat11 (k : Nat) (hk : 0 < k) {n : Int} (h : 0 ≤ n) : ∃ K : Nat, n.tmod k = K ∧ K < k := by
  have h1 := Int.tmod_nonneg (k : Int) h
  have h2 := Int.tmod_lt_of_pos n (b := (k : Int)) (by omega)
  exact ⟨(n.tmod k).toNat, by omega, by omega⟩

set_option maxHeartbeats 16000000 in
theorem l11_TickPlays (A0 : Option Addr) (c0 : Nat) (l : List TkActM) (w0 : World) (hr : RdW w0 A0 (l.flatMap encA)) (hok : ∀ z ∈ l, okA w0 z) :
    Calls Try.prog 8 #[.slice A0 l.length c0] w0 fun e w' => e = .returned (.bool true) ∧ BelowD w0.heap.size w0 w' := by
  refine enterP (tab := tab) Try.func8 rfl Try.ntmps8 rfl (args := [_]) rfl ?_
  refine VC_sound tabOk 100 ?_
  refine Go_ops rfl (OpTo_pcall (v := .bool true) rfl rfl rfl rfl rfl (by kernel_rfl) (fun w hm _ => l11_trims w) ?_)
  refine VC_sound tabOk 100 ?_
  refine ⟨fun h => by first | (simp at h; done) | (simp at h; omega) | (simp_all; done), fun _ => ?_⟩
  refine ⟨fun hc => ?_, fun hc => ?_⟩
  · refine Go_ops rfl (OpTo_pcall (v := .bool true) rfl rfl rfl rfl rfl (by kernel_rfl) (fun w hm _ => l11_trims w) ?_)
    refine VC_sound tabOk 100 ?_
    rfl
  have hl100 : l.length ≤ 100 := by have := of_decide_eq_false hc; omega
  show Go _ _ _ _
  refine Go_ops rfl (OpTo_ncall rfl rfl rfl rfl rfl (by kernel_rfl) (fun w hm _ => tick_new2 w) ?_)
  rintro _ _ ⟨bt, rfl, rfl⟩
  refine VC_sound tabOk 100 ?_
  intro br _
  refine Go_loop (σ := Nat × Option Addr × Nat × List TickM × Option Addr × Nat × List TickM × Int) (fun s => [(0, .v (.slice A0 l.length c0)), (3, .v (.pointer (some ⟨bt, 0, none⟩))), (4, .v (.pointer (some ⟨br, 0, none⟩))), (5, .v (.int .i64 s.1))]) (fun s => tkR bt s.2.1 s.2.2.1 s.2.2.2.1 s.2.2.2.2.2.2.2 ++ rfT br s.2.2.2.2.1 s.2.2.2.2.2.1 s.2.2.2.2.2.2.1 s.2.2.2.2.2.2.2) (fun s => s.1 ≤ l.length ∧ Alk s.1 s.2.2.2.1 s.2.2.2.2.2.2.1 s.2.2.2.2.2.2.2) (fun s => l.length - s.1) (0, none, 0, [], none, 0, [], 0) ⟨Nat.zero_le _, rfl, fun _ h => by simp at h, by simp, fun _ h => by simp at h, Nat.zero_le _⟩ ⟨rfl, rfl, rfl, rfl, trivial⟩ (fun _ h => ((h.ro_nil).own_nil (enc := encT) (k := 4) (T := 29) none).sel [3, 4, 5, 2, 0, 1] rfl) ?_
  rintro ⟨i, A, c, ts, A', c', us, last⟩ ⟨hi, inv⟩
  dsimp only at hi inv ⊢
  have hbd := inv.bd
  have hlen := inv.len
  have hul := inv.ulen
  by_cases hlt : i < l.length
  · obtain ⟨ba, oa, rfl⟩ := RdW.some encA_is hr (ne_nil_of_lt hlt)
    obtain ⟨a, hga⟩ : ∃ a, l[i]? = some a := ⟨_, List.getElem?_eq_getElem hlt⟩
    obtain ⟨hd0, hm0, hop, hopb, _, _, _, _⟩ := hok a (List.mem_of_getElem? hga)
    have hd := bounds_u8 hd0
    have hmm := bounds_u8 hm0
    obtain ⟨D, hD, hD6⟩ := tmod_nat11 6 (by decide) hd.1
    obtain ⟨K, hK, hK40⟩ := tmod_nat11 40 (by decide) hmm.1
    refine VC_sound tabOk 100 ?_
    refine ⟨fun _ => ?_, fun h => by first | (simp at h; done) | (simp at h; omega) | (simp_all; done)⟩
    refine ⟨⟨by omega, by omega⟩, ?_⟩
    (repeat (first | refine Or.inl ⟨rfl, rfl, ?_⟩ | refine Or.inl ⟨rfl, ?_⟩ | refine Or.inr ?_))
    refine Go_ops rfl (OpTo_loadRow tabOk encA_is (mkA a) rfl rfl rfl rfl rfl (fun h => by first | rfl | cases h) (fun w hm _ => hr.mod hm) hga (by simp only [addA]; rfl) ?_)
    refine VC_sound tabOk 100 ?_
    intro b6 _
    (repeat (first | refine Or.inl ⟨rfl, rfl, ?_⟩ | refine Or.inl ⟨rfl, ?_⟩ | refine Or.inr ?_))
    refine ⟨fun h6 => ?_, fun h6 => ?_⟩
    · rfl
    have h6' : a.op.length ≤ 6 := by have := of_decide_eq_false h6; omega
    (repeat (first | refine Or.inl ⟨rfl, rfl, ?_⟩ | refine Or.inl ⟨rfl, ?_⟩ | refine Or.inr ?_))
    (repeat (first | refine Or.inl ⟨rfl, rfl, ?_⟩ | refine Or.inl ⟨rfl, ?_⟩ | refine Or.inr ?_))
    show Go _ _ _ _
    refine Go_ops rfl (OpTo_ncall rfl rfl rfl rfl rfl (by kernel_rfl) (fun w hm _ => r05_of a.mx a.opA a.opC a.op w (hop.mod hm) (by omega) K hmm hK (fun z hz => bounds_u8 (hopb z hz))) ?_)
    rintro _ _ ⟨S1, d1, rfl, rfl⟩
    have hou := ofUpto_len a.op K
    refine VC_sound tabOk 9 ?_
    intro b7 _
    (repeat (first | refine Or.inl ⟨rfl, rfl, ?_⟩ | refine Or.inl ⟨rfl, ?_⟩ | refine Or.inr ?_))
    (repeat (first | refine Or.inl ⟨rfl, rfl, ?_⟩ | refine Or.inl ⟨rfl, ?_⟩ | refine Or.inr ?_))
    show Go _ (KI.code (Code.cond _ _ _) :: _) _ _
    refine Go_cut (σ := Int × Option Addr × Nat × List Int) (fun u => [(0, .v (.slice (some ⟨ba, oa, none⟩) l.length c0)), (3, .v (.pointer (some ⟨bt, 0, none⟩))), (4, .v (.pointer (some ⟨br, 0, none⟩))), (5, .v (.int .i64 i)), (6, .v (.pointer (some ⟨b6, 0, none⟩))), (7, .v (.pointer (some ⟨b7, 0, none⟩)))]) (fun u => tkR bt A c ts last ++ (rfT br A' c' us last ++ [snR u.2.1 u.2.2.2, .blk b7 27 [.int .i64 u.1, .slice u.2.1 u.2.2.2.length u.2.2.1], .blk b6 53 (encA a)])) (fun u => (0 ≤ u.1 ∧ u.1 ≤ 200) ∧ u.2.2.2.length ≤ 40) ?_ ?_
    · refine VC_sound tabOk 100 ?_
      refine ⟨fun h => ?_, fun h => ?_⟩
      · refine ⟨_, wrap_i64 (n := (i : Int) + 1) (by omega) (by omega), ?_⟩
        (repeat (first | refine Or.inl ⟨rfl, rfl, ?_⟩ | refine Or.inl ⟨rfl, ?_⟩ | refine Or.inr ?_))
        exact Go_put ((i : Int) + 1, none, 0, []) ⟨by dsimp only; omega, Nat.zero_le _⟩ ⟨rfl, rfl, rfl, rfl, rfl, rfl, trivial⟩ (fun _ h => ((h.ro_nil.own_nil (enc := encI .i64) (k := 1) (T := 2) none).ro_add).sel [4, 5, 6, 7, 8, 9, 0, 1, 3] rfl)
      · exact Go_put (1 + (K : Int), S1, d1, ofUpto a.op K) ⟨by dsimp only; omega, by dsimp only; omega⟩ ⟨rfl, rfl, rfl, rfl, rfl, rfl, trivial⟩ (fun _ h => ((h.ro_nil.sel [2, 0, 1, 3, 4, 5, 6, 7, 8, 9] rfl).ro_add).sel [3, 4, 5, 6, 7, 8, 0, 1, 2] rfl)
    rintro ⟨mx, S, d, op⟩ ⟨hmx', hop40⟩
    dsimp only at hmx' hop40 ⊢
    have hmx : 0 ≤ mx ∧ mx ≤ 9223372036854775807 := by omega
    refine VC_sound tabOk 12 ?_
    (repeat (first | refine Or.inl ⟨rfl, rfl, ?_⟩ | refine Or.inl ⟨rfl, ?_⟩ | refine Or.inr ?_))
    (repeat (first | refine Or.inl ⟨rfl, rfl, ?_⟩ | refine Or.inl ⟨rfl, ?_⟩ | refine Or.inr ?_))
    show Go _ (KI.code (Code.cond _ _ _) :: _) _ _
    refine Go_cut (σ := Int) (fun q => [(0, .v (.slice (some ⟨ba, oa, none⟩) l.length c0)), (3, .v (.pointer (some ⟨bt, 0, none⟩))), (4, .v (.pointer (some ⟨br, 0, none⟩))), (5, .v (.int .i64 i)), (6, .v (.pointer (some ⟨b6, 0, none⟩))), (7, .v (.pointer (some ⟨b7, 0, none⟩))), (8, .v (.int .i64 q))]) (fun _ => tkR bt A c ts last ++ (rfT br A' c' us last ++ [snR S op, .blk b7 27 [.int .i64 mx, .slice S op.length d], .blk b6 53 (encA a)])) (fun _ => True) ?_ ?_
    · refine VC_sound tabOk 100 ?_
      refine ⟨fun h => ?_, fun h => ?_⟩
      · exact Go_put (i : Int) trivial ⟨rfl, rfl, rfl, rfl, rfl, rfl, rfl, trivial⟩ (fun _ h => h)
      · exact Go_put _ trivial ⟨rfl, rfl, rfl, rfl, rfl, rfl, rfl, trivial⟩ (fun _ h => h)
    intro q _
    have hadd := inv.add mx op q
    refine VC_sound tabOk 10 ?_
    (repeat (first | refine Or.inl ⟨rfl, rfl, ?_⟩ | refine Or.inl ⟨rfl, ?_⟩ | refine Or.inr ?_))
    refine ⟨by decide, _, hD.symm, ?_⟩
    show Go _ (KI.code (Code.block _ _) :: _) _ _
    refine Go_cut (σ := Option Addr × Nat × List TickM × Option Addr × Nat × List TickM × Int) (fun u => [(0, .v (.slice (some ⟨ba, oa, none⟩) l.length c0)), (3, .v (.pointer (some ⟨bt, 0, none⟩))), (4, .v (.pointer (some ⟨br, 0, none⟩))), (5, .v (.int .i64 i)), (9, .v (.bool true))]) (fun u => tkR bt u.1 u.2.1 u.2.2.1 u.2.2.2.2.2.2 ++ rfT br u.2.2.2.1 u.2.2.2.2.1 u.2.2.2.2.2.1 u.2.2.2.2.2.2) (fun u => Alk (i + 1) u.2.2.1 u.2.2.2.2.2.1 u.2.2.2.2.2.2) ?_ ?_
    · refine VC_sound tabOk 6 ?_
      show Go _ (KI.code (Code.cond _ _ _) :: _) _ _
      refine Go_cut (σ := Bool) (fun z => [(0, .v (.slice (some ⟨ba, oa, none⟩) l.length c0)), (3, .v (.pointer (some ⟨bt, 0, none⟩))), (4, .v (.pointer (some ⟨br, 0, none⟩))), (5, .v (.int .i64 i)), (6, .v (.pointer (some ⟨b6, 0, none⟩))), (7, .v (.pointer (some ⟨b7, 0, none⟩))), (8, .v (.int .i64 q)), (9, .v (.bool true)), (71, .v (.int .u8 D)), (86, .v (.bool z))]) (fun _ => tkR bt A c ts last ++ (rfT br A' c' us last ++ [snR S op, .blk b7 27 [.int .i64 mx, .slice S op.length d], .blk b6 53 (encA a)])) (fun _ => True) ?_ ?_
      · refine VC_sound tabOk 100 ?_
        refine ⟨fun h => ?_, fun h => ?_⟩
        · exact Go_put (true) trivial ⟨rfl, rfl, rfl, rfl, rfl, rfl, rfl, rfl, rfl, rfl, trivial⟩ (fun _ h => h)
        refine ⟨fun h => ?_, fun h => ?_⟩
        · exact Go_put (true) trivial ⟨rfl, rfl, rfl, rfl, rfl, rfl, rfl, rfl, rfl, rfl, trivial⟩ (fun _ h => h)
        exact Go_put (decide ((D : Int) = 2)) trivial ⟨rfl, rfl, rfl, rfl, rfl, rfl, rfl, rfl, rfl, rfl, trivial⟩ (fun _ h => h)
      intro z _
      refine VC_sound tabOk 6 ?_
      refine ⟨fun h => ?_, fun h => ?_⟩
      · -- one more
        (repeat (first | refine Or.inl ⟨rfl, rfl, ?_⟩ | refine Or.inl ⟨rfl, ?_⟩ | refine Or.inr ?_))
        show Go _ _ _ _
        refine Go_ops rfl (OpTo_mcall (tkR bt A c ts last) (rfT br A' c' us last ++ [snR S op, .blk b7 27 [.int .i64 mx, .slice S op.length d], .blk b6 53 (encA a)]) (List.Perm.of_eq rfl) rfl rfl rfl rfl rfl (by kernel_rfl) (fun w hb hm hio hsp k => tick_add bt A c ts last mx S d op q w _ k (RdF.of_split hsp (fun Rs w h => h.ro_behind (i := 3) rfl (by simp))) (by omega) inv.fit (by omega) (by omega) (by omega)) ?_)
        rintro _ _ (⟨g0, rfl, rfl⟩ | ⟨g0, A1, c1, A2, c2, A3, c3, rfl, rfl⟩)
        · refine VC_sound tabOk 100 ?_
          intro b10 _
          (repeat (first | refine Or.inl ⟨rfl, rfl, ?_⟩ | refine Or.inl ⟨rfl, ?_⟩ | refine Or.inr ?_))
          refine Go_sel [4, 5, 6, 7, 0, 1, 2, 3, 8, 9] rfl ?_
          show Go _ _ _ _
          show Go _ _ _ _
          refine Go_ops rfl (OpTo_mcall (rfT br A' c' us last ++ [snR S op]) (.blk b10 29 (encT zeroT) :: tkR bt A c ts last ++ [.blk b7 27 [.int .i64 mx, .slice S op.length d], .blk b6 53 (encA a)]) (List.Perm.of_eq rfl) rfl rfl rfl rfl rfl (by kernel_rfl) (fun w hb hm hio hsp k => r11_add br A' c' us last mx S d op q w _ k (by omega) inv.ufit hmx (by omega) (by omega)) ?_)
          rintro _ _ (⟨_, rfl, rfl⟩ | ⟨g1, _⟩)
          rotate_left
          · rw [← hadd] at g1; exact absurd g1 g0
          refine VC_sound tabOk 100 ?_
          intro b12 _
          (repeat (first | refine Or.inl ⟨rfl, rfl, ?_⟩ | refine Or.inl ⟨rfl, ?_⟩ | refine Or.inr ?_))
          refine ⟨fun _ => ?_, fun h => absurd hadd (of_decide_eq_false h)⟩
          (repeat (first | refine Or.inl ⟨rfl, rfl, ?_⟩ | refine Or.inl ⟨rfl, ?_⟩ | refine Or.inr ?_))
          (repeat (first | refine Or.inl ⟨rfl, rfl, ?_⟩ | refine Or.inl ⟨rfl, ?_⟩ | refine Or.inr ?_))
          refine Go_ops rfl (OpTo_pcall (v := .bool true) rfl rfl rfl rfl rfl (by kernel_rfl) (fun w hm _ => r11_same zeroT zeroT rfl rfl rfl rfl w (.inl rfl) (.inl rfl) (by decide)) ?_)
          refine VC_sound tabOk 100 ?_
          exact Go_put (A, c, ts, A', c', us, last) inv.up ⟨rfl, rfl, rfl, rfl, rfl, trivial⟩ (fun _ h => h.sel [5, 6, 7, 1, 2, 3] rfl)
        · refine VC_sound tabOk 100 ?_
          intro b10 _
          (repeat (first | refine Or.inl ⟨rfl, rfl, ?_⟩ | refine Or.inl ⟨rfl, ?_⟩ | refine Or.inr ?_))
          refine Go_sel [5, 6, 7, 8, 0, 1, 2, 3, 4, 9, 10] rfl ?_
          show Go _ _ _ _
          show Go _ _ _ _
          refine Go_ops rfl (OpTo_mcall (rfT br A' c' us last ++ [snR S op]) (.blk b10 29 (encT ⟨last + 1, mx, A3, c3, op, q⟩) :: tkR bt A2 c2 (ts ++ [⟨last + 1, mx, A1, c1, op, q⟩]) (last + 1) ++ [own (encI .i64) 1 2 A3 c3 op, .blk b7 27 [.int .i64 mx, .slice S op.length d], .blk b6 53 (encA a)]) (List.Perm.of_eq rfl) rfl rfl rfl rfl rfl (by kernel_rfl) (fun w hb hm hio hsp k => r11_add br A' c' us last mx S d op q w _ k (by omega) inv.ufit hmx (by omega) (by omega)) ?_)
          rintro _ _ (⟨g1, _⟩ | ⟨_, rfl, A4, c4, rfl⟩)
          · rw [← hadd] at g1; exact absurd g0 g1
          refine VC_sound tabOk 100 ?_
          intro b12 _
          (repeat (first | refine Or.inl ⟨rfl, rfl, ?_⟩ | refine Or.inl ⟨rfl, ?_⟩ | refine Or.inr ?_))
          refine ⟨fun _ => ?_, fun h => by first | (simp at h; done) | (simp at h; omega) | (simp_all; done)⟩
          (repeat (first | refine Or.inl ⟨rfl, rfl, ?_⟩ | refine Or.inl ⟨rfl, ?_⟩ | refine Or.inr ?_))
          (repeat (first | refine Or.inl ⟨rfl, rfl, ?_⟩ | refine Or.inl ⟨rfl, ?_⟩ | refine Or.inr ?_))
          refine Go_ops rfl (OpTo_pcall (v := .bool true) rfl rfl rfl rfl rfl (by kernel_rfl) (fun w hm _ => r11_same ⟨last + 1, mx, A3, c3, op, q⟩ ⟨last + 1, mx, S, d, op, q⟩ rfl rfl rfl rfl w (hm.own_rd (i := 8) rfl) (hm.ro_rd (i := 3) rfl (List.mem_map.2 ⟨⟨last + 1, mx, S, d, op, q⟩, by simp, rfl⟩)) (by dsimp only; omega)) ?_)
          refine VC_sound tabOk 100 ?_
          exact Go_put (A2, c2, ts ++ [(⟨last + 1, mx, A1, c1, op, q⟩ : TickM)], A4, c4, us ++ [(⟨last + 1, mx, S, d, op, q⟩ : TickM)], last + 1) (inv.snoc rfl rfl hmx (by dsimp only; omega)) ⟨rfl, rfl, rfl, rfl, rfl, trivial⟩ (fun _ h => h.sel [5, 6, 7, 1, 2, 3] rfl)
      refine VC_sound tabOk 100 ?_
      refine ⟨fun h => ?_, fun h => ?_⟩
      · -- one is put
        (repeat (first | refine Or.inl ⟨rfl, rfl, ?_⟩ | refine Or.inl ⟨rfl, ?_⟩ | refine Or.inr ?_))
        (repeat (first | refine Or.inl ⟨rfl, rfl, ?_⟩ | refine Or.inl ⟨rfl, ?_⟩ | refine Or.inr ?_))
        refine ⟨fun h3 => ?_, fun h3 => ?_⟩
        · (repeat (first | refine Or.inl ⟨rfl, rfl, ?_⟩ | refine Or.inl ⟨rfl, ?_⟩ | refine Or.inr ?_))
          refine ⟨_, wrap_i64 (n := last + 1) (by omega) (by omega), ?_⟩
          (repeat (first | refine Or.inl ⟨rfl, rfl, ?_⟩ | refine Or.inl ⟨rfl, ?_⟩ | refine Or.inr ?_))
          show Go _ _ _ _
          refine Go_ops rfl (OpTo_mcall (tkR bt A c ts last) (rfT br A' c' us last ++ [snR S op, .blk b7 27 [.int .i64 mx, .slice S op.length d], .blk b6 53 (encA a)]) (List.Perm.of_eq rfl) rfl rfl rfl rfl rfl (by kernel_rfl) (fun w hb hm hio hsp k => tick_put bt A c ts last ⟨last + 1, mx, S, d, op, q⟩ w _ k (RdF.of_split hsp (fun Rs w h => h.ro_behind (i := 3) rfl (by simp))) (by dsimp only; omega) inv.fit (by dsimp only; omega) (by omega) (by omega)) ?_)
          rintro _ _ (⟨g0, rfl, rfl⟩ | ⟨g0, g1, rfl, rfl⟩ | ⟨g0, g1, rfl, A1, c1, A2, c2, rfl⟩)
          · refine VC_sound tabOk 100 ?_
            (repeat (first | refine Or.inl ⟨rfl, rfl, ?_⟩ | refine Or.inl ⟨rfl, ?_⟩ | refine Or.inr ?_))
            refine ⟨_, wrap_i64 (n := last + 1) (by omega) (by omega), ?_⟩
            refine ⟨fun h => absurd (of_decide_eq_true h) g0, fun _ => ?_⟩
            exact Go_put (A, c, ts, A', c', us, last) inv.up ⟨rfl, rfl, rfl, rfl, rfl, trivial⟩ (fun _ h => h.sel [0, 1, 2, 3, 4, 5] rfl)
          · refine VC_sound tabOk 100 ?_
            (repeat (first | refine Or.inl ⟨rfl, rfl, ?_⟩ | refine Or.inl ⟨rfl, ?_⟩ | refine Or.inr ?_))
            refine ⟨_, wrap_i64 (n := last + 1) (by omega) (by omega), ?_⟩
            refine ⟨fun _ => ?_, fun h => absurd g0 (of_decide_eq_false h)⟩
            (repeat (first | refine Or.inl ⟨rfl, rfl, ?_⟩ | refine Or.inl ⟨rfl, ?_⟩ | refine Or.inr ?_))
            refine Go_sel [3, 4, 5, 6, 0, 1, 2, 7, 8] rfl ?_
            show Go _ _ _ _
            show Go _ _ _ _
            refine Go_ops rfl (OpTo_mcall (rfT br A' c' us last ++ [snR S op]) (tkR bt A c ts last ++ [.blk b7 27 [.int .i64 mx, .slice S op.length d], .blk b6 53 (encA a)]) (List.Perm.of_eq rfl) rfl rfl rfl rfl rfl (by kernel_rfl) (fun w hb hm hio hsp k => r11_add br A' c' us last mx S d op q w _ k (by omega) inv.ufit hmx (by omega) (by omega)) ?_)
            rintro _ _ (⟨_, rfl, rfl⟩ | ⟨g2, _⟩)
            rotate_left
            · rw [← hadd] at g2; exact absurd g2 g1
            refine VC_sound tabOk 100 ?_
            exact Go_put (A, c, ts, A', c', us, last) inv.up ⟨rfl, rfl, rfl, rfl, congrArg Value.bool (decide_eq_true hadd), trivial⟩ (fun _ h => h.sel [3, 4, 5, 0, 1, 2] rfl)
          · refine VC_sound tabOk 100 ?_
            (repeat (first | refine Or.inl ⟨rfl, rfl, ?_⟩ | refine Or.inl ⟨rfl, ?_⟩ | refine Or.inr ?_))
            refine ⟨_, wrap_i64 (n := last + 1) (by omega) (by omega), ?_⟩
            refine ⟨fun _ => ?_, fun h => absurd g0 (of_decide_eq_false h)⟩
            (repeat (first | refine Or.inl ⟨rfl, rfl, ?_⟩ | refine Or.inl ⟨rfl, ?_⟩ | refine Or.inr ?_))
            refine Go_sel [3, 4, 5, 6, 0, 1, 2, 7, 8] rfl ?_
            show Go _ _ _ _
            show Go _ _ _ _
            refine Go_ops rfl (OpTo_mcall (rfT br A' c' us last ++ [snR S op]) (tkR bt A2 c2 (ts ++ [⟨last + 1, mx, A1, c1, op, q⟩]) (last + 1) ++ [.blk b7 27 [.int .i64 mx, .slice S op.length d], .blk b6 53 (encA a)]) (List.Perm.of_eq rfl) rfl rfl rfl rfl rfl (by kernel_rfl) (fun w hb hm hio hsp k => r11_add br A' c' us last mx S d op q w _ k (by omega) inv.ufit hmx (by omega) (by omega)) ?_)
            rintro _ _ (⟨g2, _⟩ | ⟨_, rfl, A4, c4, rfl⟩)
            · rw [← hadd] at g2; exact absurd g1 g2
            refine VC_sound tabOk 100 ?_
            exact Go_put (A2, c2, ts ++ [(⟨last + 1, mx, A1, c1, op, q⟩ : TickM)], A4, c4, us ++ [(⟨last + 1, mx, S, d, op, q⟩ : TickM)], last + 1) (inv.snoc rfl rfl hmx (by dsimp only; omega)) ⟨rfl, rfl, rfl, rfl, rfl, trivial⟩ (fun _ h => h.sel [3, 4, 5, 0, 1, 2] rfl)
        · (repeat (first | refine Or.inl ⟨rfl, rfl, ?_⟩ | refine Or.inl ⟨rfl, ?_⟩ | refine Or.inr ?_))
          show Go _ _ _ _
          refine Go_ops rfl (OpTo_mcall (tkR bt A c ts last) (rfT br A' c' us last ++ [snR S op, .blk b7 27 [.int .i64 mx, .slice S op.length d], .blk b6 53 (encA a)]) (List.Perm.of_eq rfl) rfl rfl rfl rfl rfl (by kernel_rfl) (fun w hb hm hio hsp k => tick_put bt A c ts last ⟨a.n, mx, S, d, op, q⟩ w _ k (RdF.of_split hsp (fun Rs w h => h.ro_behind (i := 3) rfl (by simp))) (by dsimp only; omega) inv.fit (by dsimp only; omega) (by omega) (by omega)) ?_)
          rintro _ _ (⟨g0, rfl, rfl⟩ | ⟨g0, g1, rfl, rfl⟩ | ⟨g0, g1, rfl, A1, c1, A2, c2, rfl⟩)
          · refine VC_sound tabOk 100 ?_
            (repeat (first | refine Or.inl ⟨rfl, rfl, ?_⟩ | refine Or.inl ⟨rfl, ?_⟩ | refine Or.inr ?_))
            refine ⟨_, wrap_i64 (n := last + 1) (by omega) (by omega), ?_⟩
            refine ⟨fun h => absurd (of_decide_eq_true h) g0, fun _ => ?_⟩
            exact Go_put (A, c, ts, A', c', us, last) inv.up ⟨rfl, rfl, rfl, rfl, rfl, trivial⟩ (fun _ h => h.sel [0, 1, 2, 3, 4, 5] rfl)
          · refine VC_sound tabOk 100 ?_
            (repeat (first | refine Or.inl ⟨rfl, rfl, ?_⟩ | refine Or.inl ⟨rfl, ?_⟩ | refine Or.inr ?_))
            refine ⟨_, wrap_i64 (n := last + 1) (by omega) (by omega), ?_⟩
            refine ⟨fun _ => ?_, fun h => absurd g0 (of_decide_eq_false h)⟩
            (repeat (first | refine Or.inl ⟨rfl, rfl, ?_⟩ | refine Or.inl ⟨rfl, ?_⟩ | refine Or.inr ?_))
            refine Go_sel [3, 4, 5, 6, 0, 1, 2, 7, 8] rfl ?_
            show Go _ _ _ _
            show Go _ _ _ _
            refine Go_ops rfl (OpTo_mcall (rfT br A' c' us last ++ [snR S op]) (tkR bt A c ts last ++ [.blk b7 27 [.int .i64 mx, .slice S op.length d], .blk b6 53 (encA a)]) (List.Perm.of_eq rfl) rfl rfl rfl rfl rfl (by kernel_rfl) (fun w hb hm hio hsp k => r11_add br A' c' us last mx S d op q w _ k (by omega) inv.ufit hmx (by omega) (by omega)) ?_)
            rintro _ _ (⟨_, rfl, rfl⟩ | ⟨g2, _⟩)
            rotate_left
            · rw [← hadd] at g2; exact absurd g2 g1
            refine VC_sound tabOk 100 ?_
            exact Go_put (A, c, ts, A', c', us, last) inv.up ⟨rfl, rfl, rfl, rfl, congrArg Value.bool (decide_eq_true hadd), trivial⟩ (fun _ h => h.sel [3, 4, 5, 0, 1, 2] rfl)
          · refine VC_sound tabOk 100 ?_
            (repeat (first | refine Or.inl ⟨rfl, rfl, ?_⟩ | refine Or.inl ⟨rfl, ?_⟩ | refine Or.inr ?_))
            refine ⟨_, wrap_i64 (n := last + 1) (by omega) (by omega), ?_⟩
            refine ⟨fun _ => ?_, fun h => absurd g0 (of_decide_eq_false h)⟩
            (repeat (first | refine Or.inl ⟨rfl, rfl, ?_⟩ | refine Or.inl ⟨rfl, ?_⟩ | refine Or.inr ?_))
            refine Go_sel [3, 4, 5, 6, 0, 1, 2, 7, 8] rfl ?_
            show Go _ _ _ _
            show Go _ _ _ _
            refine Go_ops rfl (OpTo_mcall (rfT br A' c' us last ++ [snR S op]) (tkR bt A2 c2 (ts ++ [⟨last + 1, mx, A1, c1, op, q⟩]) (last + 1) ++ [.blk b7 27 [.int .i64 mx, .slice S op.length d], .blk b6 53 (encA a)]) (List.Perm.of_eq rfl) rfl rfl rfl rfl rfl (by kernel_rfl) (fun w hb hm hio hsp k => r11_add br A' c' us last mx S d op q w _ k (by omega) inv.ufit hmx (by omega) (by omega)) ?_)
            rintro _ _ (⟨g2, _⟩ | ⟨_, rfl, A4, c4, rfl⟩)
            · rw [← hadd] at g2; exact absurd g1 g2
            refine VC_sound tabOk 100 ?_
            exact Go_put (A2, c2, ts ++ [(⟨last + 1, mx, A1, c1, op, q⟩ : TickM)], A4, c4, us ++ [(⟨last + 1, mx, S, d, op, q⟩ : TickM)], last + 1) (inv.snoc rfl rfl hmx (by dsimp only; omega)) ⟨rfl, rfl, rfl, rfl, rfl, trivial⟩ (fun _ h => h.sel [3, 4, 5, 0, 1, 2] rfl)
      refine ⟨fun h => ?_, fun h => ?_⟩
      · -- some are let go
        obtain ⟨N, hN⟩ : ∃ N : Int, N = IntKind.i64.wrap (BitVec.ofInt IntKind.i64.bits a.n &&& BitVec.ofInt IntKind.i64.bits 7).toNat := ⟨_, rfl⟩
        obtain ⟨bl, hbl⟩ : ∃ B : Int, B = IntKind.i64.wrap (last - N) := ⟨_, rfl⟩
        show Go _ _ _ _
        refine Go_any mixed [] [(0, false), (1, false), (2, false), (4, false), (3, false), (5, false), (6, false), (7, false), (8, false)] rfl (by kernel_rfl) (by kernel_rfl) [.blk br 51 [.slice A' us.length c', .int .i64 last], .blk b6 53 (encA a)] (fun _ => True) (fun _ _ _ h => h) (fun w hm _ => ⟨Holds.of_idx [3, 8] hm, trivial⟩) ?_
        refine VC_sound tabOk 100 ?_
        (repeat (first | refine Or.inl ⟨rfl, rfl, ?_⟩ | refine Or.inl ⟨rfl, ?_⟩ | refine Or.inr ?_))
        (repeat (first | refine Or.inl ⟨rfl, rfl, ?_⟩ | refine Or.inl ⟨rfl, ?_⟩ | refine Or.inr ?_))
        refine ⟨N, hN, ?_⟩
        refine ⟨bl, hbl, ?_⟩
        show Go _ _ _ _
        refine Go_ops rfl (OpTo_mcall (tkR bt A c ts last) (rfT br A' c' us last ++ [snR S op, .blk b7 27 [.int .i64 mx, .slice S op.length d], .blk b6 53 (encA a)]) (List.Perm.of_eq rfl) rfl rfl rfl rfl rfl (by kernel_rfl) (fun w hb hm hio hsp k => tick_trim bt A c ts last bl w _ k (by omega)) ?_)
        rintro _ _ ⟨rfl, rfl⟩
        refine VC_sound tabOk 100 ?_
        refine Go_sel [3, 4, 5, 0, 1, 2, 6, 7, 8] rfl ?_
        show Go _ _ _ _
        show Go _ _ _ _
        refine Go_ops rfl (OpTo_mcall (rfT br A' c' us last) (tkR bt A c (ts.filter fun x => !tkGone bl last x) last ++ [snR S op, .blk b7 27 [.int .i64 mx, .slice S op.length d], .blk b6 53 (encA a)]) (List.Perm.of_eq rfl) rfl rfl rfl rfl rfl (by kernel_rfl) (fun w hb hm hio hsp k => r11_trim br A' c' us last bl w _ k (by omega)) ?_)
        rintro _ _ ⟨rfl, A4, c4, rfl⟩
        refine VC_sound tabOk 100 ?_
        exact Go_put (A, c, ts.filter (fun x => !tkGone bl last x), A4, c4, us.filter (keepR bl last), last) (inv.trim bl) ⟨rfl, rfl, rfl, rfl, congrArg Value.bool (decide_eq_true (inv.trimN bl)), trivial⟩ (fun _ h => h.sel [3, 4, 5, 0, 1, 2] rfl)
      show Go _ _ _ _
      refine Go_any mixed [] [(0, false), (1, false), (2, false), (3, false), (4, false), (5, false), (8, false), (9, false), (6, false), (10, false), (7, true), (11, true), (12, false), (13, false), (14, false)] rfl (by kernel_rfl) (by kernel_rfl) [.blk b6 53 (encA a)] (fun _ => True) (fun _ _ _ h => h) (fun w hm _ => ⟨Holds.of_idx [8] hm, trivial⟩) ?_
      refine VC_sound tabOk 100 ?_
      (repeat (first | refine Or.inl ⟨rfl, rfl, ?_⟩ | refine Or.inl ⟨rfl, ?_⟩ | refine Or.inr ?_))
      refine ⟨fun h2 => ?_, fun h2 => ?_⟩
      · exact Go_put (A, c, ts, A', c', us, last) inv.up ⟨rfl, rfl, rfl, rfl, rfl, trivial⟩ (fun _ h => h.sel [0, 1, 2, 3, 4, 5] rfl)
      (repeat (first | refine Or.inl ⟨rfl, rfl, ?_⟩ | refine Or.inl ⟨rfl, ?_⟩ | refine Or.inr ?_))
      (repeat (first | refine Or.inl ⟨rfl, rfl, ?_⟩ | refine Or.inl ⟨rfl, ?_⟩ | refine Or.inr ?_))
      show Go _ _ _ _
      refine Go_aloneL rfl rfl (OpTo_mcall (tkR bt A c ts last) (rfT br A' c' us last ++ [snR S op, .blk b7 27 [.int .i64 mx, .slice S op.length d], .blk b6 53 (encA a)]) (List.Perm.of_eq rfl) rfl rfl rfl rfl rfl (by kernel_rfl) (fun w hb hm hio hsp k => tick_trim bt A c ts last a.n w _ k (by omega)) ?_)
      rintro _ _ ⟨rfl, rfl⟩
      refine And.intro (fun w hm _ => ⟨Holds.of_idx [8] hm, trivial⟩) ?_
      refine VC_sound tabOk 100 ?_
      refine Go_sel [3, 4, 5, 0, 1, 2, 6, 7, 8] rfl ?_
      show Go _ _ _ _
      refine Go_aloneL rfl rfl (OpTo_mcall (rfT br A' c' us last) (tkR bt A c (ts.filter fun x => !tkGone a.n last x) last ++ [snR S op, .blk b7 27 [.int .i64 mx, .slice S op.length d], .blk b6 53 (encA a)]) (List.Perm.of_eq rfl) rfl rfl rfl rfl rfl (by kernel_rfl) (fun w hb hm hio hsp k => r11_trim br A' c' us last a.n w _ k (by omega)) ?_)
      rintro _ _ ⟨rfl, A4, c4, rfl⟩
      refine And.intro (fun w hm _ => ⟨Holds.of_idx [8] hm, trivial⟩) ?_
      refine VC_sound tabOk 100 ?_
      exact Go_put (A, c, ts.filter (fun x => !tkGone a.n last x), A4, c4, us.filter (keepR a.n last), last) (inv.trim a.n) ⟨rfl, rfl, rfl, rfl, congrArg Value.bool (decide_eq_true (inv.trimN a.n)), trivial⟩ (fun _ h => h.sel [3, 4, 5, 0, 1, 2] rfl)
    rintro ⟨A2, c2, ts2, A3, c3, us2, last2⟩ inv2
    dsimp only at inv2 ⊢
    have hbd2 := inv2.bd
    have hlen2 := inv2.len
    have hul2 := inv2.ulen
    refine VC_sound tabOk 100 ?_
    show Go _ _ _ _
    refine Go_any mixed [] [(0, false), (1, false), (2, false), (3, false), (5, false), (6, false), (7, false), (8, false), (4, true), (9, false), (10, false), (11, false), (12, false), (14, false), (15, false), (16, false), (17, false), (18, false), (13, true), (19, false), (20, false)] rfl (by kernel_rfl) (by kernel_rfl) [.blk br 51 [.slice A3 us2.length c3, .int .i64 last2]] (fun _ => True) (fun _ _ _ h => h) (fun w hm _ => ⟨Holds.of_idx [3] hm, trivial⟩) ?_
    refine VC_sound tabOk 100 ?_
    refine ⟨fun h => by first | (simp at h; done) | (simp at h; omega) | (simp_all; done), fun _ => ?_⟩
    (repeat (first | refine Or.inl ⟨rfl, rfl, ?_⟩ | refine Or.inl ⟨rfl, ?_⟩ | refine Or.inr ?_))
    refine Go_aloneL rfl rfl (OpTo_pcall (v := .int .i64 last2) rfl rfl rfl rfl rfl (by kernel_rfl) (fun w hm _ => tick_last bt A2 ts2.length c2 last2 w (hm.blk_at (i := 0) rfl)) ?_)
    refine And.intro (fun w hm _ => ⟨Holds.of_idx [3] hm, trivial⟩) ?_
    refine VC_sound tabOk 100 ?_
    refine ⟨fun h => by first | (simp at h; done) | (simp at h; omega) | (simp_all; done), fun _ => ?_⟩
    (repeat (first | refine Or.inl ⟨rfl, rfl, ?_⟩ | refine Or.inl ⟨rfl, ?_⟩ | refine Or.inr ?_))
    refine Go_aloneL rfl rfl (OpTo_pcall (v := .int .i64 ts2.length) rfl rfl rfl rfl rfl (by kernel_rfl) (fun w hm _ => tick_len bt A2 ts2.length c2 last2 w (hm.blk_at (i := 0) rfl)) ?_)
    refine And.intro (fun w hm _ => ⟨Holds.of_idx [3] hm, trivial⟩) ?_
    refine VC_sound tabOk 100 ?_
    refine ⟨fun h => by simp [hul2] at h, fun _ => ?_⟩
    (repeat (first | refine Or.inl ⟨rfl, rfl, ?_⟩ | refine Or.inl ⟨rfl, ?_⟩ | refine Or.inr ?_))
    refine ⟨_, wrap_i64 (n := last2 - 4) (by omega) (by omega), ?_⟩
    refine Go_loop (σ := Nat) (fun j => [(0, .v (.slice (some ⟨ba, oa, none⟩) l.length c0)), (3, .v (.pointer (some ⟨bt, 0, none⟩))), (4, .v (.pointer (some ⟨br, 0, none⟩))), (5, .v (.int .i64 i)), (18, .v (.int .i64 (last2 - 4 + j)))]) (fun _ => tkR bt A2 c2 ts2 last2 ++ rfT br A3 c3 us2 last2) (fun j => j ≤ 6) (fun j => 6 - j) 0 (Nat.zero_le _) ⟨rfl, rfl, rfl, rfl, congrArg (Value.int .i64) (by simp), trivial⟩ (fun _ h => h) ?_
    intro j hj
    dsimp only at hj ⊢
    refine VC_sound tabOk 100 ?_
    (repeat (first | refine Or.inl ⟨rfl, rfl, ?_⟩ | refine Or.inl ⟨rfl, ?_⟩ | refine Or.inr ?_))
    refine ⟨_, wrap_i64 (n := last2 + 1) (by omega) (by omega), ?_⟩
    refine ⟨fun h1 => ?_, fun h1 => ?_⟩
    · have hj5 : j ≤ 5 := by have := of_decide_eq_true h1; omega
      generalize hN : last2 - 4 + (j : Int) = N
      show Go _ _ _ _
      refine Go_ops rfl (OpTo_ncall (Qc := uniQ (tkIs N) us2) rfl rfl rfl rfl rfl (by kernel_rfl) (fun w hm _ => uni_of inv2 (fun k => decide (k.1 = N)) rfl (tick_get bt A2 c2 ts2 last2 N w (hm.blk_at (i := 0) rfl) (hm.own_rd (i := 1) rfl) (fun t ht => hm.ro_rd (i := 2) rfl (List.mem_map.2 ⟨t, ht, rfl⟩)) (by omega) inv2.fit)) ?_)
      rintro _ _ ⟨x, fl, rfl, rfl, y, hy1, hy2, hy3, hy4⟩
      refine VC_sound tabOk 100 ?_
      intro b19 _
      (repeat (first | refine Or.inl ⟨rfl, rfl, ?_⟩ | refine Or.inl ⟨rfl, ?_⟩ | refine Or.inr ?_))
      refine Go_ops rfl (OpTo_pcall (v := .tuple #[mkT y, .bool fl]) rfl rfl rfl rfl rfl (by kernel_rfl) (fun w hm _ => hy1 ▸ r11_get br A3 c3 us2 last2 N w (hm.blk_at (i := 5) rfl) (hm.own_rd (i := 6) rfl) (by omega)) ?_)
      refine VC_sound tabOk 100 ?_
      intro b21 _
      (repeat (first | refine Or.inl ⟨rfl, rfl, ?_⟩ | refine Or.inl ⟨rfl, ?_⟩ | refine Or.inr ?_))
      show Go _ _ _ _
      refine Go_ops rfl (OpTo_ncall (Qc := uniQ (tkAft N) us2) rfl rfl rfl rfl rfl (by kernel_rfl) (fun w hm _ => uni_of inv2 (fun k => decide (N < k.1)) rfl (tick_after bt A2 c2 ts2 last2 N w (hm.blk_at (i := 3) rfl) (hm.own_rd (i := 4) rfl) (fun t ht => hm.ro_rd (i := 5) rfl (List.mem_map.2 ⟨t, ht, rfl⟩)) (by omega) inv2.fit)) ?_)
      rintro _ _ ⟨p, fm, rfl, rfl, r, hr1, hr2, hr3, hr4⟩
      refine VC_sound tabOk 100 ?_
      intro b23 _
      (repeat (first | refine Or.inl ⟨rfl, rfl, ?_⟩ | refine Or.inl ⟨rfl, ?_⟩ | refine Or.inr ?_))
      refine Go_ops rfl (OpTo_pcall (v := .tuple #[mkT r, .bool fm]) rfl rfl rfl rfl rfl (by kernel_rfl) (fun w hm _ => hr1 ▸ r11_after br A3 c3 us2 last2 N w (hm.blk_at (i := 8) rfl) (hm.own_rd (i := 9) rfl) (by omega)) ?_)
      refine VC_sound tabOk 100 ?_
      intro b25 _
      (repeat (first | refine Or.inl ⟨rfl, rfl, ?_⟩ | refine Or.inl ⟨rfl, ?_⟩ | refine Or.inr ?_))
      refine ⟨fun h => by simp at h, fun _ => ?_⟩
      refine ⟨fun h => by simp at h, fun _ => ?_⟩
      (repeat (first | refine Or.inl ⟨rfl, rfl, ?_⟩ | refine Or.inl ⟨rfl, ?_⟩ | refine Or.inr ?_))
      (repeat (first | refine Or.inl ⟨rfl, rfl, ?_⟩ | refine Or.inl ⟨rfl, ?_⟩ | refine Or.inr ?_))
      have ky := hy2
      simp only [keyT, Prod.mk.injEq] at ky
      refine Go_ops rfl (OpTo_pcall (v := .bool true) rfl rfl rfl rfl rfl (by kernel_rfl) (fun w hm _ => r11_same x y ky.1 ky.2.1 ky.2.2.1 ky.2.2.2 w (hm.own_rd (i := 5) rfl) (by
          rcases hy3 with hin | h0
          · exact hm.ro_rd (i := 11) rfl (List.mem_map.2 ⟨y, hin, rfl⟩)
          · rw [h0]; exact .inl rfl) hy4) ?_)
      refine VC_sound tabOk 100 ?_
      refine ⟨fun h => by first | (simp at h; done) | (simp at h; omega) | (simp_all; done), fun _ => ?_⟩
      (repeat (first | refine Or.inl ⟨rfl, rfl, ?_⟩ | refine Or.inl ⟨rfl, ?_⟩ | refine Or.inr ?_))
      (repeat (first | refine Or.inl ⟨rfl, rfl, ?_⟩ | refine Or.inl ⟨rfl, ?_⟩ | refine Or.inr ?_))
      have kr := hr2
      simp only [keyT, Prod.mk.injEq] at kr
      refine Go_ops rfl (OpTo_pcall (v := .bool true) rfl rfl rfl rfl rfl (by kernel_rfl) (fun w hm _ => r11_same p r kr.1 kr.2.1 kr.2.2.1 kr.2.2.2 w (hm.own_rd (i := 2) rfl) (by
          rcases hr3 with hin | h0
          · exact hm.ro_rd (i := 11) rfl (List.mem_map.2 ⟨r, hin, rfl⟩)
          · rw [h0]; exact .inl rfl) hr4) ?_)
      refine VC_sound tabOk 100 ?_
      refine ⟨fun h => by first | (simp at h; done) | (simp at h; omega) | (simp_all; done), fun _ => ?_⟩
      refine ⟨_, wrap_i64 (n := N + 1) (by omega) (by omega), ?_⟩
      exact Go_fin (j + 1) (by omega) (by omega) ⟨rfl, rfl, rfl, rfl, congrArg (Value.int .i64) (by omega), trivial⟩ (fun _ h => h.sel [6, 7, 8, 9, 10, 11] rfl)
    · refine ⟨_, wrap_i64 (n := (i : Int) + 1) (by omega) (by omega), ?_⟩
      exact Go_fin (i + 1, A2, c2, ts2, A3, c3, us2, last2) ⟨by dsimp only; omega, inv2⟩ (by dsimp only; omega) ⟨rfl, rfl, rfl, rfl, trivial⟩ (fun _ h => h)
  refine VC_sound tabOk 100 ?_
  refine ⟨fun h => by first | (simp at h; done) | (simp at h; omega) | (simp_all; done), fun _ => ?_⟩
  rfl
end Go.Proofs.Ytkhnnaekinoghaa
