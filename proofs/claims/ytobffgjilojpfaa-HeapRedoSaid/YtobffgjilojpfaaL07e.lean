/- The acts of layer 7, and when there are not too many; the law HeapSnap: what its run comes to. -/
import Derived.Test.YtobffgjilojpfaaL07d
import Derived.Test.YtobffgjilojpfaaRxActs
set_option maxRecDepth 100000
set_option autoImplicit false
set_option linter.unusedVariables false
set_option linter.unusedSimpArgs false
namespace Go.Proofs.Ytobffgjilojpfaa
open Go.RX Go Go.RowKit Go.ChangeShapes Go.WideShapes Go.ChangeAt

structure ActM where
  d : Int
  who : Int
  key : Int
  text : ByteArray
def encA : ActM → List Value := fun x => [.int .u8 x.d, .int .u8 x.who, .int .i64 x.key, .string x.text]
theorem encA_is : IsEnc encA 4 := ⟨fun _ => rfl, fun x v hv => by simp [encA] at hv; rcases hv with rfl | rfl | rfl | rfl <;> rfl, by decide⟩
abbrev mkA (x : ActM) : Value := .agg #[.int .u8 x.d, .int .u8 x.who, .int .i64 x.key, .string x.text]
def okA (w : World) (x : ActM) : Prop := (Lit.int .u8 x.d).wf = true ∧ (Lit.int .u8 x.who).wf = true ∧ (Lit.int .i64 x.key).wf = true ∧ x.text.size ≤ maxLen
theorem rd_acts {H : Type} {enc : TypeId × Value → H} {w : World} {base : Nat} {sp : Nat → Bool} {held : Bool} {r : Reach} {b0 : Nat} {v : Value} {d : DataW H} {ps : List MemPlace} (hval : Value.okWide Try.prog w r b0 46 v) (hd : DataW.Trod enc Try.prog w base sp held 46 v d ps) :
    ∃ (A : Option Addr) (c : Nat) (xs : List ActM), v = .slice A xs.length c ∧ RdW w A (xs.flatMap encA) ∧ (∀ x ∈ xs, okA w x) ∧ xs.length ≤ c ∧ c ≤ maxLen :=
  rd_slice encA_is Try.underlying46 (by kernel_rfl) (fun cs y fuel h => by
    obtain ⟨hl, hf⟩ := rd_struct tabOk (T := 49) rfl h
    rw [show Try.prog.cellsOf 49 = 4 from by kernel_rfl] at hl
    match cs, hl with
    | [v0, v1, v2, v3], _ =>
      obtain ⟨y0, m0, h0⟩ := hf 0 0 5 rfl
      rw [show Try.prog.cellsOf 5 = 1 from by kernel_rfl] at h0
      obtain ⟨z0, e0, _, q0⟩ := DataW.trod_int Try.underlying5 h0
      simp at e0
      subst e0
      obtain ⟨y1, m1, h1⟩ := hf 1 1 5 rfl
      rw [show Try.prog.cellsOf 5 = 1 from by kernel_rfl] at h1
      obtain ⟨z1, e1, _, q1⟩ := DataW.trod_int Try.underlying5 h1
      simp at e1
      subst e1
      obtain ⟨y2, m2, h2⟩ := hf 2 2 2 rfl
      rw [show Try.prog.cellsOf 2 = 1 from by kernel_rfl] at h2
      obtain ⟨z2, e2, _, q2⟩ := DataW.trod_int Try.underlying2 h2
      simp at e2
      subst e2
      obtain ⟨y3, m3, h3⟩ := hf 3 3 9 rfl
      rw [show Try.prog.cellsOf 9 = 1 from by kernel_rfl] at h3
      obtain ⟨z3, e3, _, q3⟩ := DataW.trod_string Try.underlying9 h3
      simp at e3
      subst e3
      exact ⟨⟨z0, z1, z2, z3⟩, rfl, q0, q1, q2, q3⟩) hval hd

def smallP (l : List ActM) : Bool := (l.all fun x => !decide (20 < (x.text.size : Int))) && decide ((l.length : Int) ≤ 80)
theorem smallP_len {l : List ActM} (h : smallP l = true) : l.length ≤ 80 := by
  simp [smallP] at h; omega
set_option maxHeartbeats 1000000 in
theorem l07_small (A : Option Addr) (c : Nat) (l : List ActM) (w0 : World) (hr : RdW w0 A (l.flatMap encA)) (hl : l.length ≤ 9223372036854775807) :
    Calls Try.prog 18 #[.slice A l.length c] w0 fun e w' => e = .returned (.bool (smallP l)) ∧ BelowD w0.heap.size w0 w' := by
  refine enterP (tab := tab) Try.func18 rfl Try.ntmps18 rfl (args := [_]) rfl ?_
  refine VC_sound tabOk 100 ?_
  refine Go_loop (σ := Nat) (fun i => [(0, .v (.slice A l.length c)), (3, .v (.int .i64 i))]) (fun _ => []) (fun i => i ≤ l.length ∧ (l.take i).all (fun x => !decide (20 < (x.text.size : Int))) = true) (fun i => l.length - i) 0 ⟨Nat.zero_le _, rfl⟩ ⟨rfl, rfl, trivial⟩ (fun _ h => h) ?_
  rintro i ⟨hi, hall⟩
  dsimp only at hi hall ⊢
  by_cases hlt : i < l.length
  · obtain ⟨b, o, rfl⟩ := RdW.some encA_is hr (ne_nil_of_lt hlt)
    obtain ⟨x, hgx⟩ : ∃ x, l[i]? = some x := ⟨_, List.getElem?_eq_getElem hlt⟩
    refine VC_sound tabOk 100 ?_
    refine ⟨fun _ => ?_, fun h => by first | (simp at h; done) | (simp at h; omega) | (simp_all; done)⟩
    refine ⟨⟨by omega, by omega⟩, ?_⟩
    refine Go_ops rfl (OpTo_loadPart tabOk encA_is (n := i) (j := 3) (.string x.text) rfl rfl rfl (fun w hm _ => hr.mod hm) hgx rfl (by simp only [addA]; rfl) ?_)
    refine VC_sound tabOk 100 ?_
    refine ⟨fun h1 => ?_, fun h1 => ?_⟩
    · refine congrArg Value.bool ?_
      have : l.all (fun x => !decide (20 < (x.text.size : Int))) = false := List.all_eq_false.2 ⟨x, List.mem_of_getElem? hgx, by rw [h1]; decide⟩
      rw [smallP, this]; rfl
    · refine ⟨_, wrap_i64 (n := (i : Int) + 1) (by omega) (by omega), ?_⟩
      exact Go_fin (i + 1) ⟨by omega, by rw [List.take_add_one, hgx, List.all_append, hall]; simp only [Option.toList_some, List.all_cons, List.all_nil, h1]; rfl⟩ (by omega) ⟨rfl, rfl, trivial⟩ (fun _ h => h)
  have he : i = l.length := by omega
  subst he
  rw [List.take_length] at hall
  refine VC_sound tabOk 100 ?_
  refine ⟨fun h => by first | (simp at h; done) | (simp at h; omega) | (simp_all; done), fun _ => ?_⟩
  exact congrArg Value.bool (by rw [smallP, hall, Bool.true_and])

/-! ### what the second one sees -/
def VsI (vs : List VerM) : Prop := ∀ x ∈ vs, (x.born = 1 ∨ 3 ≤ x.born) ∧ (x.died = 0 ∨ 3 ≤ x.died)
def baseL (vs : List VerM) : List RowM := (vs.filter fun x => decide (x.born = 1)).map rowOf
def pj (x : VerM) : VerM := ⟨x.key, x.text, x.born, 0⟩
theorem baseL_pj (vs : List VerM) : baseL (vs.map pj) = baseL vs := by
  unfold baseL
  rw [List.filter_map, List.map_map]
  rfl
theorem base_seen {st : Int → Int} (h1 : st 1 = 2) {S : Option Addr} {d : Nat} {vs : List VerM} (h : VsI vs) : seenL st (vw2 S d) vs = baseL vs := by
  unfold seenL baseL
  congr 1
  refine List.filter_congr fun x hx => ?_
  obtain ⟨hb, hd⟩ := h x hx
  have e2 : didP st (vw2 S d) x.died = false := by
    rcases hd with hd | hd
    · rw [hd]; rfl
    · have h2 : x.died ≠ 2 := by omega
      have h3 : ¬ x.died < 3 := by omega
      simp [didP, snSees, h2, h3]
  rw [seesP, e2]
  rcases hb with hb | hb
  · rw [hb]
    simp [didP, snSees, h1]
  · have h2 : x.born ≠ 2 := by omega
    have h3 : ¬ x.born < 3 := by omega
    have h4 : x.born ≠ 1 := by omega
    simp [didP, snSees, h2, h3, h4]
/-- One who came later has changed them. -/
structure Stp (vs vs' : List VerM) : Prop where
  ok : VsI vs → VsI vs'
  base : baseL vs' = baseL vs
  len : vs'.length ≤ vs.length + 1
theorem Stp.refl (vs : List VerM) : Stp vs vs := ⟨id, rfl, by omega⟩
theorem Stp.more {vs vs1 : List VerM} (h : VsI vs → VsI vs1) (hb : baseL vs1 = baseL vs) (hl : vs1.length ≤ vs.length) {c k : Int} {t : ByteArray} (hc : 3 ≤ c) : Stp vs (vs1 ++ [⟨k, t, c, 0⟩]) := by
  refine ⟨fun hv x hx => ?_, ?_, by simp; omega⟩
  · rcases List.mem_append.1 hx with hx | hx
    · exact h hv x hx
    · simp at hx; subst hx; exact ⟨.inr hc, .inl rfl⟩
  · have h1 : ¬ c = 1 := by omega
    rw [← hb, baseL, List.filter_append, List.map_append]
    simp [h1, baseL]
theorem Stp.ins {st : Int → Int} {v : VwM} (hc : 3 ≤ v.own) (vs : List VerM) (r : RowM) : Stp vs (insVs st v vs r) := by
  rcases insVs_cases st v vs r with e | ⟨_, e⟩
  · rw [e]; exact Stp.refl vs
  · rw [e]; exact Stp.more id rfl (Nat.le_refl _) hc
theorem kill_stp {st : Int → Int} {v : VwM} (hc : 3 ≤ v.own) {vs vs' : List VerM} {key e : Int} (h : killR st v vs key e vs') : (VsI vs → VsI vs') ∧ baseL vs' = baseL vs ∧ vs'.length = vs.length := by
  refine ⟨?_, ?_, h.len⟩
  · intro hv
    rcases h with ⟨_, _, rfl⟩ | ⟨_, _, _, rfl⟩ | ⟨_, i, x, hx, _, _, ⟨_, _, rfl⟩ | ⟨_, _, rfl⟩⟩
    · exact hv
    · exact hv
    · exact hv
    · intro y hy
      rcases List.mem_or_eq_of_mem_set hy with hy | rfl
      · exact hv y hy
      · exact ⟨(hv x (List.mem_of_getElem? hx)).1, .inr hc⟩
  · rcases h with ⟨_, _, rfl⟩ | ⟨_, _, _, rfl⟩ | ⟨_, i, x, hx, _, _, ⟨_, _, rfl⟩ | ⟨_, _, rfl⟩⟩
    · rfl
    · rfl
    · rfl
    · rw [← baseL_pj, List.map_set, ← baseL_pj vs]
      congr 1
      obtain ⟨hi, rfl⟩ := List.getElem?_eq_some_iff.1 hx
      have e : pj ⟨vs[i].key, vs[i].text, vs[i].born, v.own⟩ = (vs.map pj)[i]'(by simpa using hi) := by simp [pj]
      rw [e, List.set_getElem_self]
theorem Stp.kill {st : Int → Int} {v : VwM} (hc : 3 ≤ v.own) {vs vs' : List VerM} {key e : Int} (h : killR st v vs key e vs') : Stp vs vs' := by
  obtain ⟨h1, h2, h3⟩ := kill_stp hc h
  exact ⟨h1, h2, by omega⟩
theorem Stp.upd {st : Int → Int} {v : VwM} (hc : 3 ≤ v.own) {vs vs' : List VerM} {r : RowM} {e : Int} (h : updR st v vs r e vs') : Stp vs vs' := by
  obtain ⟨vs1, hk, rfl⟩ := h
  obtain ⟨h1, h2, h3⟩ := kill_stp hc hk
  split
  · exact Stp.more h1 h2 (by omega) hc
  · exact ⟨h1, h2, by omega⟩
theorem Stp.end_ {st : Int → Int} {v : VwM} (hc : 3 ≤ v.own) (vs : List VerM) : Stp vs (vs.map (endV st v)) := by
  refine ⟨fun hv x hx => ?_, ?_, by simp⟩
  · obtain ⟨y, hy, rfl⟩ := List.mem_map.1 hx
    have := hv y hy
    unfold endV
    split
    · exact ⟨this.1, .inr hc⟩
    · exact this
  · rw [← baseL_pj, List.map_map, ← baseL_pj vs]
    congr 1
    refine List.map_congr_left fun x _ => ?_
    simp only [Function.comp, endV]
    split <;> rfl
end Go.Proofs.Ytobffgjilojpfaa
