/- A statement of a store, with all that stands there; the acts of layer 8, and when there are not too many. -/
import Derived.Test.YtbhlkninmbafcaaGreatRelR
import Derived.Test.YtbhlkninmbafcaaGreatRxActs
set_option maxRecDepth 100000
set_option autoImplicit false
set_option linter.unusedVariables false
set_option linter.unusedSimpArgs false
namespace Go.Proofs.YtbhlkninmbafcaaGreat
open Go.RX Go Go.RowKit Go.ChangeShapes Go.WideShapes Go.ChangeAt

structure ActM where
  d : Int
  who : Int
  kind : Int
  table : Int
  key : Int
  text : ByteArray
def encA : ActM → List Value := fun x => [.int .u8 x.d, .int .u8 x.who, .int .u8 x.kind, .int .i64 x.table, .int .i64 x.key, .string x.text]
theorem encA_is : IsEnc encA 6 := ⟨fun _ => rfl, fun x v hv => by simp [encA] at hv; rcases hv with rfl | rfl | rfl | rfl | rfl | rfl <;> rfl, by decide⟩
abbrev mkA (x : ActM) : Value := .agg #[.int .u8 x.d, .int .u8 x.who, .int .u8 x.kind, .int .i64 x.table, .int .i64 x.key, .string x.text]
def okA (w : World) (x : ActM) : Prop := (Lit.int .u8 x.d).wf = true ∧ (Lit.int .u8 x.who).wf = true ∧ (Lit.int .u8 x.kind).wf = true ∧ (Lit.int .i64 x.table).wf = true ∧ (Lit.int .i64 x.key).wf = true ∧ x.text.size ≤ maxLen
theorem rd_acts {H : Type} {enc : TypeId × Value → H} {w : World} {base : Nat} {sp : Nat → Bool} {held : Bool} {r : Reach} {b0 : Nat} {v : Value} {d : DataW H} {ps : List MemPlace} (hval : Value.okWide Tryz.prog w r b0 22 v) (hd : DataW.Trod enc Tryz.prog w base sp held 22 v d ps) :
    ∃ (A : Option Addr) (c : Nat) (xs : List ActM), v = .slice A xs.length c ∧ RdW w A (xs.flatMap encA) ∧ (∀ x ∈ xs, okA w x) ∧ xs.length ≤ c ∧ c ≤ maxLen :=
  rd_slice encA_is Tryz.underlying22 (by kernel_rfl) (fun cs y fuel h => by
    obtain ⟨hl, hf⟩ := rd_struct tabOk (T := 41) rfl h
    rw [show Tryz.prog.cellsOf 41 = 6 from by kernel_rfl] at hl
    match cs, hl with
    | [v0, v1, v2, v3, v4, v5], _ =>
      obtain ⟨y0, m0, h0⟩ := hf 0 0 5 rfl
      rw [show Tryz.prog.cellsOf 5 = 1 from by kernel_rfl] at h0
      obtain ⟨z0, e0, _, q0⟩ := DataW.trod_int Tryz.underlying5 h0
      simp at e0
      subst e0
      obtain ⟨y1, m1, h1⟩ := hf 1 1 5 rfl
      rw [show Tryz.prog.cellsOf 5 = 1 from by kernel_rfl] at h1
      obtain ⟨z1, e1, _, q1⟩ := DataW.trod_int Tryz.underlying5 h1
      simp at e1
      subst e1
      obtain ⟨y2, m2, h2⟩ := hf 2 2 5 rfl
      rw [show Tryz.prog.cellsOf 5 = 1 from by kernel_rfl] at h2
      obtain ⟨z2, e2, _, q2⟩ := DataW.trod_int Tryz.underlying5 h2
      simp at e2
      subst e2
      obtain ⟨y3, m3, h3⟩ := hf 3 3 3 rfl
      rw [show Tryz.prog.cellsOf 3 = 1 from by kernel_rfl] at h3
      obtain ⟨z3, e3, _, q3⟩ := DataW.trod_int Tryz.underlying3 h3
      simp at e3
      subst e3
      obtain ⟨y4, m4, h4⟩ := hf 4 4 2 rfl
      rw [show Tryz.prog.cellsOf 2 = 1 from by kernel_rfl] at h4
      obtain ⟨z4, e4, _, q4⟩ := DataW.trod_int Tryz.underlying2 h4
      simp at e4
      subst e4
      obtain ⟨y5, m5, h5⟩ := hf 5 5 9 rfl
      rw [show Tryz.prog.cellsOf 9 = 1 from by kernel_rfl] at h5
      obtain ⟨z5, e5, _, q5⟩ := DataW.trod_string Tryz.underlying9 h5
      simp at e5
      subst e5
      exact ⟨⟨z0, z1, z2, z3, z4, z5⟩, rfl, q0, q1, q2, q3, q4, q5⟩) hval hd

/-- A store, its manager, and the list of a view. -/
abbrev relK (br : Nat) (Ap : Option Addr) (cp : Nat) (ps : List (Option Addr)) (v : VwM) : List Res := [.blk br 78 [.slice Ap ps.length cp], own encP 1 79 Ap cp ps, own (encI .i64) 1 2 v.S v.d v.op]
abbrev relC (br : Nat) (Ap : Option Addr) (cp : Nat) (ps : List (Option Addr)) (m b1 b2 : Nat) (s : TxS) (v : VwM) (hs : List Hp) : List Res := txB m b1 b2 s ++ (relK br Ap cp ps v ++ hsR m hs)
/-- What a statement comes to, whatever it is. -/
def actR (st : Int → Int) (v : VwM) (ps : List (Option Addr)) (vs : List VerM) (k t : Int) (r : RowM) : Int → List RowM → List VerM → Prop := fun e ys vs' =>
  (rightP k ps t r.text.size = true ∧ runR st v vs k r e ys vs') ∨ (rightP k ps t r.text.size = false ∧ e = 1 ∧ ys = [] ∧ vs' = vs)
set_option maxHeartbeats 1000000 in
theorem rel_runA (br : Nat) (Ap : Option Addr) (cp : Nat) (ps : List (Option Addr)) (m b1 b2 : Nat) (s : TxS) (v : VwM) (hs : List Hp) (k : Int) (T : Nat) (r : RowM) {H : Hp} (hps : psH hs = ps) (hT : hs[T]? = some H) (hn : H.vs.length ≤ 9999) (hl : v.op.length ≤ 1000000)
    (w0 : World) (hfs : List PH) (hm : Mod hfs (relC br Ap cp ps m b1 b2 s v hs) w0) :
    Calls Tryz.prog 15 #[.pointer (some ⟨br, 0, none⟩), v.v, mkSt k T r] w0 fun e w' => ∃ u Rs', e = .returned u ∧ (∃ e ys A2 c2 vs' A' c', actR (stE s) v ps H.vs k T r e ys vs' ∧ u = .tuple #[.slice A2 ys.length c2, .int .i64 e] ∧ Rs' = own encR 2 55 A2 c2 ys :: relC br Ap cp ps m b1 b2 s v (hs.set T ⟨H.h, A', c', vs'⟩)) ∧ Mod hfs Rs' w' ∧ Oth w0 w' := by
  have hlt : T < hs.length := (List.getElem?_eq_some_iff.1 hT).1
  cases hr : rightP k ps T r.text.size with
  | true =>
    obtain ⟨hb, h1, h2⟩ := (hm.permRs (can_at hT)).split
    refine (rel_run br Ap cp ps H.h m b1 b2 s H.A H.c H.vs v k T r hn hl hr (by rw [← hps]; exact psH_at hT) w0 (hb ++ hfs) h1 (RdF.of_split h2 fun Rs w h => h.own_behind (i := 2) rfl) (RelF.of_split h2 fun Rs w h => ⟨h.blk_behind (i := 0) rfl, h.own_behind (i := 1) rfl⟩)).mono fun e w' ⟨u, Rs', k1, ⟨e', ys, A2, c2, vs', A', c', hq, k2, k3⟩, k4, k5⟩ => ?_
    subst k3
    exact ⟨u, _, k1, ⟨e', ys, A2, c2, vs', A', c', .inl ⟨hr, hq⟩, k2, rfl⟩, (h2 _ w' k4).permRs (List.Perm.cons _ (can_set hlt ⟨H.h, A', c', vs'⟩)), k5⟩
  | false =>
    refine (rel_run_wrong br Ap cp ps v k T r hr w0 (hm.blk_at (i := 3) rfl) (hm.own_rd (i := 4) rfl)).mono fun e w' ⟨k1, k2⟩ => ?_
    have hset : hs.set T ⟨H.h, H.A, H.c, H.vs⟩ = hs := by
      obtain ⟨_, rfl⟩ := List.getElem?_eq_some_iff.1 hT
      exact List.set_getElem_self _
    exact ⟨_, _, k1, ⟨1, [], none, 0, H.vs, H.A, H.c, .inr ⟨hr, rfl, rfl, rfl⟩, rfl, rfl⟩, by rw [hset]; exact (hm.keep fun n hn => k2.block n hn).own_nil none, Oth.of_below k2⟩
theorem run_len {st : Int → Int} {v : VwM} {vs vs' : List VerM} {k e : Int} {r : RowM} {ys : List RowM} (h : runR st v vs k r e ys vs') : vs'.length ≤ vs.length + 1 := by
  rcases h with ⟨_, _, _, rfl⟩ | ⟨_, _, vs1, h, rfl⟩ | ⟨_, _, h⟩ | ⟨_, h⟩ | ⟨_, rfl, _⟩ | ⟨_, rfl, _⟩
  · unfold insVs; split <;> simp
  · have := h.len
    split
    · simp; omega
    · omega
  · have := h.len; omega
  · rcases h with ⟨_, _, _, rfl⟩ | ⟨_, _, _, _, rfl⟩ | ⟨_, _, _, _, rfl⟩ <;> simp
  · omega
  · omega
theorem act_len {st : Int → Int} {v : VwM} {ps : List (Option Addr)} {vs vs' : List VerM} {k t e : Int} {r : RowM} {ys : List RowM} (h : actR st v ps vs k t r e ys vs') : vs'.length ≤ vs.length + 1 := by
  rcases h with ⟨_, h⟩ | ⟨_, _, _, rfl⟩
  · exact run_len h
  · omega
/-- A Scan. -/
theorem act_scan {st : Int → Int} {v : VwM} {hs : List Hp} {T : Nat} {H : Hp} (hT : hs[T]? = some H) {e : Int} {r : RowM} {ys : List RowM} {vs' : List VerM} (h : actR st v (psH hs) H.vs 6 T r e ys vs') : e = 0 ∧ SrtS (seenL st v H.vs) ys ∧ vs' = H.vs := by
  have hr : rightP 6 (psH hs) T r.text.size = true := by rw [rightP, psH_at hT]; simp [longP]
  rcases h with ⟨_, h⟩ | ⟨h, _⟩
  · rcases h with ⟨h, _⟩ | ⟨h, _⟩ | ⟨h, _⟩ | ⟨h, _⟩ | ⟨h, _⟩ | ⟨_, h1, h2, h3⟩
    all_goals first | (exact absurd h (by decide)) | exact ⟨h2, h3, h1⟩
  · rw [hr] at h; cases h
theorem insE_free8 {st : Int → Int} {v : VwM} {vs : List VerM} {key : Int} (hst : st v.own = 1) (hk : ∀ x ∈ vs, x.key ≠ key) : insE st v vs key = 0 := by
  have h1 : vs.any (findP st v key) = false := List.any_eq_false.2 fun x hx => by simp [findP, hk x hx]
  have h2 : vs.any (insP st v key) = false := List.any_eq_false.2 fun x hx => by simp [insP, hk x hx]
  rw [insE, if_pos hst, h1, h2]; rfl
theorem SrtS.one8 {x : RowM} {zs : List RowM} (h : SrtS [x] zs) : zs = [x] := h.unique ⟨SameBy.refl _ _, by simp [Rise], rfl⟩

def smallP8 (l : List ActM) : Bool := (l.all fun x => !decide (60 < (x.text.size : Int))) && decide ((l.length : Int) ≤ 80)
theorem smallP8_len {l : List ActM} (h : smallP8 l = true) : l.length ≤ 80 := by
  simp [smallP8] at h; omega
set_option maxHeartbeats 1000000 in
theorem l08_small (A : Option Addr) (c : Nat) (l : List ActM) (w0 : World) (hr : RdW w0 A (l.flatMap encA)) (hl : l.length ≤ 9223372036854775807) :
    Calls Tryz.prog 5 #[.slice A l.length c] w0 fun e w' => e = .returned (.bool (smallP8 l)) ∧ BelowD w0.heap.size w0 w' := by
  refine enterP (tab := tab) Tryz.func5 rfl Tryz.ntmps5 rfl (args := [_]) rfl ?_
  refine VC_sound tabOk 100 ?_
  refine Go_loop (σ := Nat) (fun i => [(0, .v (.slice A l.length c)), (3, .v (.int .i64 i))]) (fun _ => []) (fun i => i ≤ l.length ∧ (l.take i).all (fun x => !decide (60 < (x.text.size : Int))) = true) (fun i => l.length - i) 0 ⟨Nat.zero_le _, rfl⟩ ⟨rfl, rfl, trivial⟩ (fun _ h => h) ?_
  rintro i ⟨hi, hall⟩
  dsimp only at hi hall ⊢
  by_cases hlt : i < l.length
  · obtain ⟨b, o, rfl⟩ := RdW.some encA_is hr (ne_nil_of_lt hlt)
    obtain ⟨x, hgx⟩ : ∃ x, l[i]? = some x := ⟨_, List.getElem?_eq_getElem hlt⟩
    refine VC_sound tabOk 100 ?_
    refine ⟨fun _ => ?_, fun h => by first | (simp at h; done) | (simp at h; omega) | (simp_all; done)⟩
    refine ⟨⟨by omega, by omega⟩, ?_⟩
    refine Go_ops rfl (OpTo_loadPart tabOk encA_is (n := i) (j := 5) (.string x.text) rfl rfl rfl (fun w hm _ => hr.mod hm) hgx rfl (by simp only [addA]; rfl) ?_)
    refine VC_sound tabOk 100 ?_
    refine ⟨fun h1 => ?_, fun h1 => ?_⟩
    · refine congrArg Value.bool ?_
      have : l.all (fun x => !decide (60 < (x.text.size : Int))) = false := List.all_eq_false.2 ⟨x, List.mem_of_getElem? hgx, by rw [h1]; decide⟩
      rw [smallP8, this]; rfl
    · refine ⟨_, wrap_i64 (n := (i : Int) + 1) (by omega) (by omega), ?_⟩
      exact Go_fin (i + 1) ⟨by omega, by rw [List.take_add_one, hgx, List.all_append, hall]; simp only [Option.toList_some, List.all_cons, List.all_nil, h1]; rfl⟩ (by omega) ⟨rfl, rfl, trivial⟩ (fun _ h => h)
  have he : i = l.length := by omega
  subst he
  rw [List.take_length] at hall
  refine VC_sound tabOk 100 ?_
  refine ⟨fun h => by first | (simp at h; done) | (simp at h; omega) | (simp_all; done), fun _ => ?_⟩
  exact congrArg Value.bool (by rw [smallP8, hall, Bool.true_and])
end Go.Proofs.YtbhlkninmbafcaaGreat
