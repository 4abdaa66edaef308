/- The laws SpoolForget and SpoolOrder: what their runs come to. -/
import Derived.Test.YtdkalgnjfbbokaaL10b
import Derived.Test.YtdkalgnjfbbokaaSpoolB
import Derived.Test.YtdkalgnjfbbokaaRxActs
import Derived.KernelRfl
set_option autoImplicit false
set_option linter.unusedVariables false
set_option linter.unusedSimpArgs false
namespace Go.Proofs.Ytdkalgnjfbbokaa
open Go.RX Go Go.RowKit Go.ChangeShapes Go.WideShapes Go.ChangeAt

structure ActM where
  d : Int
  i : Int
  id : Int
  tx : Int
  tb : Int
def encA : ActM → List Value := fun x => [.int .u8 x.d, .int .i64 x.i, .int .i64 x.id, .int .u8 x.tx, .int .u8 x.tb]
theorem encA_is : IsEnc encA 5 := ⟨fun _ => rfl, fun x v hv => by simp [encA] at hv; rcases hv with rfl | rfl | rfl | rfl | rfl <;> rfl, by decide⟩
abbrev mkA (x : ActM) : Value := .agg #[.int .u8 x.d, .int .i64 x.i, .int .i64 x.id, .int .u8 x.tx, .int .u8 x.tb]
def okA (w : World) (x : ActM) : Prop := (Lit.int .u8 x.d).wf = true ∧ (Lit.int .i64 x.i).wf = true ∧ (Lit.int .i64 x.id).wf = true ∧ (Lit.int .u8 x.tx).wf = true ∧ (Lit.int .u8 x.tb).wf = true
theorem rd_acts {H : Type} {enc : TypeId × Value → H} {w : World} {base : Nat} {sp : Nat → Bool} {held : Bool} {r : Reach} {b0 : Nat} {v : Value} {d : DataW H} {ps : List MemPlace} (hval : Value.okWide Try.prog w r b0 35 v) (hd : DataW.Trod enc Try.prog w base sp held 35 v d ps) :
    ∃ (A : Option Addr) (c : Nat) (xs : List ActM), v = .slice A xs.length c ∧ RdW w A (xs.flatMap encA) ∧ (∀ x ∈ xs, okA w x) ∧ xs.length ≤ c ∧ c ≤ maxLen :=
  rd_slice encA_is Try.underlying35 (by kernel_rfl) (fun cs y fuel h => by
    obtain ⟨hl, hf⟩ := rd_struct tabOk (T := 38) rfl h
    rw [show Try.prog.cellsOf 38 = 5 from by kernel_rfl] at hl
    match cs, hl with
    | [v0, v1, v2, v3, v4], _ =>
      obtain ⟨y0, m0, h0⟩ := hf 0 0 5 rfl
      rw [show Try.prog.cellsOf 5 = 1 from by kernel_rfl] at h0
      obtain ⟨z0, e0, _, q0⟩ := DataW.trod_int Try.underlying5 h0
      simp at e0
      subst e0
      obtain ⟨y1, m1, h1⟩ := hf 1 1 3 rfl
      rw [show Try.prog.cellsOf 3 = 1 from by kernel_rfl] at h1
      obtain ⟨z1, e1, _, q1⟩ := DataW.trod_int Try.underlying3 h1
      simp at e1
      subst e1
      obtain ⟨y2, m2, h2⟩ := hf 2 2 2 rfl
      rw [show Try.prog.cellsOf 2 = 1 from by kernel_rfl] at h2
      obtain ⟨z2, e2, _, q2⟩ := DataW.trod_int Try.underlying2 h2
      simp at e2
      subst e2
      obtain ⟨y3, m3, h3⟩ := hf 3 3 5 rfl
      rw [show Try.prog.cellsOf 5 = 1 from by kernel_rfl] at h3
      obtain ⟨z3, e3, _, q3⟩ := DataW.trod_int Try.underlying5 h3
      simp at e3
      subst e3
      obtain ⟨y4, m4, h4⟩ := hf 4 4 5 rfl
      rw [show Try.prog.cellsOf 5 = 1 from by kernel_rfl] at h4
      obtain ⟨z4, e4, _, q4⟩ := DataW.trod_int Try.underlying5 h4
      simp at e4
      subst e4
      exact ⟨⟨z0, z1, z2, z3, z4⟩, rfl, q0, q1, q2, q3, q4⟩) hval hd


theorem tmod_nat {n : Int} (m : Int) (hm : 0 < m) (h0 : 0 ≤ n) : ∃ K : Nat, n.tmod m = K ∧ (K : Int) < m := by
  have h1 := Int.tmod_nonneg m h0
  have h2 := Int.tmod_lt_of_pos n hm
  exact ⟨(n.tmod m).toNat, by omega, by omega⟩

/-- Three tables. -/
abbrev Tbs := Tb × Tb × Tb
abbrev spT (bs : Nat) (T : Tbs) (cur : Nat) : List Res := spR bs T.1 T.2.1 T.2.2 cur
def set3 (T : Tbs) (k : Nat) (t : Tb) : Tbs := match k with
  | 0 => (t, T.2.1, T.2.2)
  | 1 => (T.1, t, T.2.2)
  | _ => (T.1, T.2.1, t)
abbrev get3 (T : Tbs) (k : Nat) : Tb := pick3 T.1 T.2.1 T.2.2 k
theorem spSet_eq (bs : Nat) (T : Tbs) (cur k : Nat) (t : Tb) : spSet bs T.1 T.2.1 T.2.2 cur k t = spT bs (set3 T k t) cur := by
  match k with
  | 0 => rfl
  | 1 => rfl
  | k + 2 => rfl
theorem get_set3 (T : Tbs) (k j : Nat) (t : Tb) (hk : k < 3) (hj : j < 3) : get3 (set3 T k t) j = if j = k then t else get3 T j := by
  have hk' : k = 0 ∨ k = 1 ∨ k = 2 := by omega
  have hj' : j = 0 ∨ j = 1 ∨ j = 2 := by omega
  rcases hk' with rfl | rfl | rfl <;> rcases hj' with rfl | rfl | rfl <;> rfl
def sum3 (f : Tb → Nat) (T : Tbs) : Nat := f T.1 + f T.2.1 + f T.2.2
theorem sum_set3 (f : Tb → Nat) (T : Tbs) (k : Nat) (t : Tb) (d : Nat) (hk : k < 3) (h : f t = f (get3 T k) + d) : sum3 f (set3 T k t) = sum3 f T + d := by
  have hk' : k = 0 ∨ k = 1 ∨ k = 2 := by omega
  rcases hk' with rfl | rfl | rfl <;> simp only [sum3, set3, get3, pick3] at * <;> omega
abbrev len3 : Tbs → Nat := sum3 fun t => t.xs.length
theorem len3_le (T : Tbs) (k : Nat) (hk : k < 3) : (get3 T k).xs.length ≤ len3 T := by
  have hk' : k = 0 ∨ k = 1 ∨ k = 2 := by omega
  rcases hk' with rfl | rfl | rfl <;> simp only [sum3, get3, pick3] <;> omega
theorem pre3_len (T : Tbs) : (pre3 T.1 T.2.1 T.2.2 3).length = len3 T := by simp [pre3, sum3]; omega
theorem tf_len (x : Int) (t : Tb) : (tf x t).xs.length + (t.xs.filter fun e => decide (e.tx = x)).length = t.xs.length := by
  simp only [tf]
  have h1 := List.length_eq_countP_add_countP (fun e : EventM => decide (e.tx = x)) (l := t.xs)
  rw [List.countP_eq_length_filter, List.countP_eq_length_filter] at h1
  have e : (t.xs.filter fun a => decide ¬decide (a.tx = x) = true) = t.xs.filter fun e => !decide (e.tx = x) := by
    congr 1; funext a; by_cases h : a.tx = x <;> simp [h]
  rw [e] at h1
  omega
theorem tf_tf (x : Int) (t : Tb) : tf x (tf x t) = tf x t := by simp [tf, List.filter_filter]

def evF (i tx : Int) : EventM := ⟨i, tx, ⟨#[]⟩, 0, 0, 0, 0, ⟨#[]⟩⟩
abbrev cntX (X : Int) : Tbs → Nat := sum3 fun t => (t.xs.filter fun e => decide (e.tx = X)).length

set_option maxHeartbeats 8000000 in
theorem l10_SpoolForget (A : Option Addr) (c : Nat) (l : List ActM) (x : Int) (w0 : World) (hr : RdW w0 A (l.flatMap encA)) (hx : 0 ≤ x ∧ x ≤ 255) (hok : ∀ z ∈ l, okA w0 z) :
    Calls Try.prog 6 #[.slice A l.length c, .int .u8 x] w0 fun e w' => e = .returned (.bool true) ∧ BelowD w0.heap.size w0 w' := by
  obtain ⟨X, hX, hX4⟩ := tmod_nat 4 (by decide) hx.1
  refine enterP (tab := tab) Try.func6 rfl Try.ntmps6 rfl (args := [_, _]) rfl ?_
  refine VC_sound tabOk 100 ?_
  refine Go_ops rfl (OpTo_pcall (v := .bool true) rfl rfl rfl rfl rfl (by kernel_rfl) (fun w hm _ => l10_turns w) ?_)
  refine VC_sound tabOk 100 ?_
  refine ⟨fun h => by first | (simp at h; done) | (simp at h; omega) | (simp_all; done), fun _ => ?_⟩
  refine ⟨fun hc => ?_, fun hc => ?_⟩
  · refine Go_ops rfl (OpTo_pcall (v := .bool true) rfl rfl rfl rfl rfl (by kernel_rfl) (fun w hm _ => l10_turns w) ?_)
    refine VC_sound tabOk 100 ?_
    rfl
  have hl60 : l.length ≤ 60 := by simp at hc; omega
  show Go _ _ _ _
  refine Go_ops rfl (OpTo_ncall rfl rfl rfl rfl rfl (by kernel_rfl) (fun w hm _ => spool_new w) ?_)
  rintro _ _ ⟨bs, rfl, rfl⟩
  refine VC_sound tabOk 100 ?_
  refine Go_loop (σ := Nat × Tbs) (fun s => [(0, .v (.slice A l.length c)), (1, .v (.int .u8 x)), (5, .v (.pointer (some ⟨bs, 0, none⟩))), (6, .v (.int .i64 (cntX X s.2))), (7, .v (.int .i64 s.1))]) (fun s => spT bs s.2 0) (fun s => s.1 ≤ l.length ∧ len3 s.2 = s.1 ∧ cntX X s.2 ≤ s.1) (fun s => l.length - s.1) (0, noTb, noTb, noTb) ⟨Nat.zero_le _, rfl, Nat.zero_le _⟩ ⟨rfl, rfl, rfl, rfl, rfl, trivial⟩ (fun _ h => h) ?_
  rintro ⟨i, T⟩ ⟨hi, hT, hC⟩
  dsimp only at hi hT hC ⊢
  refine VC_sound tabOk 100 ?_
  refine ⟨fun hc => ?_, fun hc => ?_⟩
  · have hlt : i < l.length := by simpa using hc
    obtain ⟨bl, ol, rfl⟩ := RdW.some encA_is hr (ne_nil_of_lt hlt)
    have ho := hok l[i] (List.getElem_mem hlt)
    have hd := bounds_u8 ho.1
    have ht := bounds_u8 ho.2.2.2.1
    obtain ⟨K, hK, hK3⟩ := tmod_nat 3 (by decide) hd.1
    obtain ⟨Y, hY, hY4⟩ := tmod_nat 4 (by decide) ht.1
    show Go _ _ _ _
    refine Go_any mixed [18] [(0, false), (1, false), (2, false), (3, false), (4, false), (8, false), (9, false), (10, false), (11, false), (12, false), (13, false), (5, false), (6, false), (7, false), (14, false), (15, false), (16, false), (17, false), (18, true)] rfl (by kernel_rfl) (by kernel_rfl) [] (fun w => RdW w (some ⟨bl, ol, none⟩) (l.flatMap encA)) (fun w w' hk h => h.old hk) (fun w hm _ => ⟨trivial, hr.mod hm⟩) ?_
    refine VC_sound tabOk 100 ?_
    refine ⟨⟨by omega, by omega⟩, ?_⟩
    refine ⟨_, wrap_i64 (n := (i : Int) + 1) (by omega) (by omega), ?_⟩
    refine ⟨⟨by omega, by omega⟩, ?_⟩
    refine Go_first (v := .int .u8 l[i].d) rfl rfl rfl rfl (fun w _ hw => rxLoadPart tabOk rfl encA_is hw (List.getElem?_eq_getElem hlt) (off := 0) rfl (by simp only [addA]; rfl)) ?_
    refine VC_sound tabOk 100 ?_
    refine ⟨by decide, _, hK.symm, ?_⟩
    refine ⟨_, wrap_i64 (n := (K : Int)) (by omega) (by omega), ?_⟩
    refine Go_first (v := .int .u8 l[i].tx) rfl rfl rfl rfl (fun w _ hw => rxLoadPart tabOk rfl encA_is hw (List.getElem?_eq_getElem hlt) (off := 3) rfl (by simp only [addA]; rfl)) ?_
    refine VC_sound tabOk 100 ?_
    refine ⟨by decide, _, hY.symm, ?_⟩
    refine ⟨_, wrap_i64 (n := (Y : Int)) (by omega) (by omega), ?_⟩
    have hle0 := len3_le T 0 (by omega)
    have hle1 := len3_le T 1 (by omega)
    have hle2 := len3_le T 2 (by omega)
    simp only [get3, pick3] at hle0 hle1 hle2
    refine Go_aloneM rfl rfl rfl (OpTo_mcall (spT bs T 0) [] (List.Perm.of_eq (by simp)) rfl rfl rfl rfl rfl (by kernel_rfl) (fun w hb hm hio hsp k => spool_addTo bs T.1 T.2.1 T.2.2 0 K (evF ((i : Int) + 1) Y) w _ k (by omega) (by omega) (by omega) (by omega)) ?_)
    rintro _ _ ⟨A', c', rfl, rfl⟩
    rw [spSet_eq]
    refine VC_sound tabOk 100 ?_
    have hT1 : len3 (set3 T K ⟨A', c', (get3 T K).xs ++ [evF ((i : Int) + 1) Y]⟩) = len3 T + 1 := sum_set3 _ T K _ 1 (by omega) (by simp)
    refine ⟨⟨by omega, by omega⟩, ?_⟩
    (repeat (first | refine Or.inl ⟨rfl, rfl, ?_⟩ | refine Or.inl ⟨rfl, ?_⟩ | refine Or.inr ?_))
    refine Go_ops rfl (OpTo_loadPart tabOk encA_is (n := i) (j := 3) (.int .u8 l[i].tx) rfl rfl rfl (fun w hm _ => hr.mod hm) (List.getElem?_eq_getElem hlt) rfl (by simp only [addA]; rfl) ?_)
    refine VC_sound tabOk 100 ?_
    refine ⟨by decide, _, hY.symm, ?_⟩
    refine ⟨by decide, _, hX.symm, ?_⟩
    refine ⟨fun he => ?_, fun he => ?_⟩
    · have he' : Y = X := by simp at he; omega
      have hC1 : cntX X (set3 T K ⟨A', c', (get3 T K).xs ++ [evF ((i : Int) + 1) Y]⟩) = cntX X T + 1 := sum_set3 _ T K _ 1 (by omega) (by simp [evF, he'])
      refine ⟨_, wrap_i64 (n := (cntX X T : Int) + 1) (by omega) (by omega), ?_⟩
      refine ⟨_, wrap_i64 (n := (i : Int) + 1) (by omega) (by omega), ?_⟩
      exact Go_fin (i + 1, set3 T K ⟨A', c', (get3 T K).xs ++ [evF ((i : Int) + 1) Y]⟩) ⟨by dsimp only; omega, by dsimp only; omega, by dsimp only; omega⟩ (by dsimp only; omega) ⟨rfl, rfl, rfl, congrArg (Value.int .i64) (by dsimp only; omega), rfl, trivial⟩ (fun _ h => h.sel [0, 1, 2, 3] rfl)
    · have he' : Y ≠ X := by simp at he; omega
      have hC1 : cntX X (set3 T K ⟨A', c', (get3 T K).xs ++ [evF ((i : Int) + 1) Y]⟩) = cntX X T + 0 := sum_set3 _ T K _ 0 (by omega) (by simp [evF]; omega)
      refine ⟨_, wrap_i64 (n := (i : Int) + 1) (by omega) (by omega), ?_⟩
      exact Go_fin (i + 1, set3 T K ⟨A', c', (get3 T K).xs ++ [evF ((i : Int) + 1) Y]⟩) ⟨by dsimp only; omega, by dsimp only; omega, by dsimp only; omega⟩ (by dsimp only; omega) ⟨rfl, rfl, rfl, congrArg (Value.int .i64) (by dsimp only; omega), rfl, trivial⟩ (fun _ h => h.sel [0, 1, 2, 3] rfl)
  have he : i = l.length := by simp at hc; omega
  subst he
  have hle0 := len3_le T 0 (by omega)
  have hle1 := len3_le T 1 (by omega)
  have hle2 := len3_le T 2 (by omega)
  simp only [get3, pick3] at hle0 hle1 hle2
  refine ⟨by decide, _, hX.symm, ?_⟩
  refine ⟨_, wrap_i64 (n := (X : Int)) (by omega) (by omega), ?_⟩
  show Go _ _ _ _
  refine Go_ops rfl (OpTo_mcall (spT bs T 0) [] (List.Perm.of_eq rfl) rfl rfl rfl rfl rfl (by kernel_rfl) (fun w hb hm hio hsp k => spool_forget bs T.1 T.2.1 T.2.2 0 X w _ k (by omega) (by omega) (by omega)) ?_)
  rintro _ _ ⟨rfl, rfl⟩
  refine VC_sound tabOk 100 ?_
  have f0 := tf_len X T.1
  have f1 := tf_len X T.2.1
  have f2 := tf_len X T.2.2
  have hcn : cntX X T = (T.1.xs.filter fun e => decide (e.tx = (X : Int))).length + (T.2.1.xs.filter fun e => decide (e.tx = (X : Int))).length + (T.2.2.xs.filter fun e => decide (e.tx = (X : Int))).length := rfl
  have hln : len3 T = T.1.xs.length + T.2.1.xs.length + T.2.2.xs.length := rfl
  have hpl := pre3_len (tf X T.1, tf X T.2.1, tf X T.2.2)
  have hln2 : len3 (tf X T.1, tf X T.2.1, tf X T.2.2) = (tf X T.1).xs.length + (tf X T.2.1).xs.length + (tf X T.2.2).xs.length := rfl
  dsimp only at hpl
  show Go _ _ _ _
  refine Go_ops rfl (OpTo_ncall rfl rfl rfl rfl rfl (by kernel_rfl) (fun w hm _ => spool_all bs (tf X T.1) (tf X T.2.1) (tf X T.2.2) 0 w (hm.blk_at (i := 0) rfl) (fun i => by
    match i with
    | 0 => exact hm.own_rd (i := 1) rfl
    | 1 => exact hm.own_rd (i := 2) rfl
    | i + 2 => exact hm.own_rd (i := 3) rfl) (by omega)) ?_)
  rintro _ _ ⟨ys, ⟨s1, s2, s3⟩, A1, c1, rfl, rfl⟩
  refine VC_sound tabOk 100 ?_
  have hno : ∀ e ∈ ys, e.tx ≠ X := fun e he => by
    have := (s1.mem e).2 he
    simp only [pre3, List.mem_append] at this
    rcases this with (h | h) | h <;> simpa [tf] using (List.mem_filter.1 h).2
  refine Go_loop (σ := Nat) (fun i => [(0, .v (.slice A l.length c)), (1, .v (.int .u8 x)), (5, .v (.pointer (some ⟨bs, 0, none⟩))), (6, .v (.int .i64 (cntX X T))), (8, .v (.int .i64 ((T.1.xs.length + T.2.1.xs.length + T.2.2.xs.length : Nat) - ((tf X T.1).xs.length + (tf X T.2.1).xs.length + (tf X T.2.2).xs.length : Nat) : Int))), (9, .v (.slice A1 ys.length c1)), (10, .v (.int .i64 i))]) (fun _ => own encE 8 29 A1 c1 ys :: spR bs (tf X T.1) (tf X T.2.1) (tf X T.2.2) 0) (fun i => i ≤ ys.length) (fun i => ys.length - i) 0 (Nat.zero_le _) ⟨rfl, rfl, rfl, rfl, rfl, rfl, rfl, trivial⟩ (fun _ h => h) ?_
  intro i hi
  dsimp only at hi ⊢
  by_cases hlt : i < ys.length
  · refine Go_with _ (fun w hm _ => hm.own_some (i := 0) rfl (ne_nil_of_lt hlt)) ?_
    rintro ⟨b, o, rfl⟩
    refine VC_sound tabOk 100 ?_
    refine ⟨fun _ => ?_, fun h => by first | (simp at h; done) | (simp at h; omega) | (simp_all; done)⟩
    refine ⟨⟨by omega, by omega⟩, ?_⟩
    (repeat (first | refine Or.inl ⟨rfl, rfl, ?_⟩ | refine Or.inl ⟨rfl, ?_⟩ | refine Or.inr ?_))
    refine Go_ops rfl (OpTo_loadPart tabOk encE_is (n := i) (j := 1) (.int .i64 ys[i].tx) rfl rfl rfl (fun w hm _ => hm.own_rd (i := 0) rfl) (List.getElem?_eq_getElem hlt) rfl (by simp only [addA]; rfl) ?_)
    refine VC_sound tabOk 100 ?_
    refine ⟨by decide, _, hX.symm, ?_⟩
    refine ⟨_, wrap_i64 (n := (X : Int)) (by omega) (by omega), ?_⟩
    refine ⟨fun h => absurd (by simpa using h) (hno _ (List.getElem_mem hlt)), fun _ => ?_⟩
    refine ⟨_, wrap_i64 (n := (i : Int) + 1) (by omega) (by omega), ?_⟩
    exact Go_fin (i + 1) (by omega) (by omega) ⟨rfl, rfl, rfl, rfl, rfl, rfl, rfl, trivial⟩ (fun _ h => h)
  refine VC_sound tabOk 100 ?_
  refine ⟨fun h => by first | (simp at h; done) | (simp at h; omega) | (simp_all; done), fun _ => ?_⟩
  refine ⟨fun _ => ?_, fun h => by first | (simp at h; done) | (simp at h; omega) | (simp_all; done)⟩
  refine ⟨_, wrap_i64 (n := (l.length : Int) - cntX X T) (by omega) (by omega), ?_⟩
  refine ⟨fun _ => ?_, fun h => by first | (simp at h; done) | (simp at h; omega) | (simp_all; done)⟩
  refine ⟨by decide, _, hX.symm, ?_⟩
  refine ⟨_, wrap_i64 (n := (X : Int)) (by omega) (by omega), ?_⟩
  show Go _ _ _ _
  refine Go_ops rfl (OpTo_mcall (spR bs (tf X T.1) (tf X T.2.1) (tf X T.2.2) 0) [own encE 8 29 A1 c1 ys] (List.perm_append_comm (l₁ := [_])) rfl rfl rfl rfl rfl (by kernel_rfl) (fun w hb hm hio hsp k => spool_forget bs (tf X T.1) (tf X T.2.1) (tf X T.2.2) 0 X w _ k (by omega) (by omega) (by omega)) ?_)
  rintro _ _ ⟨rfl, rfl⟩
  refine VC_sound tabOk 100 ?_
  simp only [tf_tf]
  exact congrArg Value.bool (by simp)
end Go.Proofs.Ytdkalgnjfbbokaa
