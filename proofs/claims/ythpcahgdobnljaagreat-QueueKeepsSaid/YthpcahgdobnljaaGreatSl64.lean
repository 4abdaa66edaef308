/- What Go's own functions on slices of int64 do; the references' own. -/
import Derived.Test.YthpcahgdobnljaaGreatTab
set_option maxRecDepth 100000
set_option autoImplicit false
set_option linter.unusedVariables false
namespace Go.Proofs.YthpcahgdobnljaaGreat
open Go.RX Go Go.RowKit

theorem ne_nil_of_lt {α : Type} {zs : List α} {i : Nat} (h : i < zs.length) : zs ≠ [] := by intro e; subst e; simp at h

/-- The first place of a number; below 0: none. -/
def idxI : List Int → Int → Int
  | [], _ => -1
  | z :: r, x => if z = x then 0 else if idxI r x = -1 then -1 else idxI r x + 1
theorem idxI_ge (zs : List Int) (x : Int) : -1 ≤ idxI zs x := by
  induction zs with
  | nil => simp [idxI]
  | cons z r ih => simp only [idxI]; split <;> (try split) <;> omega
theorem idxI_at : ∀ (zs : List Int) (x : Int) (i : Nat) (h : i < zs.length), zs[i] = x → (∀ j (h : j < zs.length), j < i → zs[j] ≠ x) → idxI zs x = i
  | z :: r, x, 0, h, e, _ => by simp at e; simp [idxI, e]
  | z :: r, x, i + 1, h, e, hne => by
    have h0 : z ≠ x := hne 0 (by simp) (by omega)
    have := idxI_at r x i (by simpa using h) (by simpa using e) (fun j hj hlt => hne (j + 1) (by simpa using hj) (by omega))
    simp only [idxI, if_neg h0, this]
    rw [if_neg (by omega)]; omega
theorem idxI_none : ∀ (zs : List Int) (x : Int), (∀ j (h : j < zs.length), zs[j] ≠ x) → idxI zs x = -1
  | [], x, _ => rfl
  | z :: r, x, hne => by
    have h0 : z ≠ x := hne 0 (by simp)
    have := idxI_none r x (fun j hj => hne (j + 1) (by simpa using hj))
    simp [idxI, h0, this]
theorem idxI_mem (zs : List Int) (x : Int) : decide (0 ≤ idxI zs x) = zs.contains x := by
  have key : 0 ≤ idxI zs x ↔ x ∈ zs := by
    induction zs with
    | nil => simp [idxI]
    | cons z r ih =>
      have h1 := idxI_ge r x
      have h2 : idxI (z :: r) x = if z = x then 0 else if idxI r x = -1 then -1 else idxI r x + 1 := rfl
      rw [h2, List.mem_cons]
      by_cases h : z = x
      · simp [h]
      · rw [if_neg h]
        split
        · rename_i h3
          rw [← ih, h3]
          constructor
          · intro h4; omega
          · rintro (h4 | h4)
            · exact absurd h4.symm h
            · omega
        · rename_i h3
          rw [← ih]
          constructor
          · intro h4; right; omega
          · rintro (h4 | h4)
            · exact absurd h4.symm h
            · omega
  by_cases h : x ∈ zs
  · simp [key, h]
  · simp [key, h]

set_option maxHeartbeats 400000 in
theorem sl_index (A : Option Addr) (c : Nat) (zs : List Int) (x : Int) (w0 : World) (hA : RdI w0 A zs) (hn : zs.length ≤ 4611686018427387904) :
    Calls Tryz.prog 214 #[.slice A zs.length c, .int .i64 x] w0 fun e w' => e = .returned (.int .i64 (idxI zs x)) ∧ BelowD w0.heap.size w0 w' := by
  refine enterP (tab := tab) Tryz.func214 rfl Tryz.ntmps214 rfl (args := [_, _]) rfl ?_
  refine VC_sound tabOk 100 ?_
  refine Go_loop (σ := Nat) (fun i => [(0, .v (.slice A zs.length c)), (1, .v (.int .i64 x)), (7, .v (.int .i64 zs.length)), (8, .v (.int .i64 i))]) (fun _ => []) (fun i => i ≤ zs.length ∧ ∀ j (h : j < zs.length), j < i → zs[j] ≠ x) (fun i => zs.length - i) 0 ⟨Nat.zero_le _, fun _ _ h => by omega⟩ ⟨rfl, rfl, rfl, rfl, trivial⟩ (fun _ h => h) ?_
  intro i ⟨hi, hne⟩
  refine VC_sound tabOk 100 ?_
  refine ⟨fun hb => ?_, fun hb => ?_⟩
  · have hlt : i < zs.length := by simpa using hb
    obtain ⟨b, o, rfl⟩ := RdI.some hA (ne_nil_of_lt hlt)
    refine ⟨⟨by omega, by omega⟩, ?_⟩
    refine Go_ops rfl (OpTo_loadRow tabOk (encI_is .i64) (.int .i64 zs[i]) rfl rfl rfl rfl rfl (fun _ => rfl) (fun w hm _ => hA.mod hm) (List.getElem?_eq_getElem hlt) rfl ?_)
    refine VC_sound tabOk 100 ?_
    refine ⟨fun hb => ?_, fun hb => ?_⟩
    · exact congrArg (Value.int .i64) (idxI_at zs x i hlt (of_decide_eq_true hb).symm hne).symm
    · refine ⟨_, wrap_i64 (n := (i : Int) + 1) (by omega) (by omega), ?_⟩
      refine Go_fin (i + 1) ⟨by omega, fun j h hj => ?_⟩ (by omega) ⟨rfl, rfl, rfl, rfl, trivial⟩ (fun _ h => h)
      by_cases e : j = i
      · subst e; exact fun h => of_decide_eq_false hb h.symm
      · exact hne j h (by omega)
  · have hge : ¬ i < zs.length := by simpa using hb
    exact congrArg (Value.int .i64) (idxI_none zs x fun j h => hne j h (by omega)).symm

set_option maxHeartbeats 400000 in
theorem sl_contains (A : Option Addr) (c : Nat) (zs : List Int) (x : Int) (w0 : World) (hA : RdI w0 A zs) (hn : zs.length ≤ 4611686018427387904) :
    Calls Tryz.prog 184 #[.slice A zs.length c, .int .i64 x] w0 fun e w' => e = .returned (.bool (zs.contains x)) ∧ BelowD w0.heap.size w0 w' := by
  refine enterP (tab := tab) Tryz.func184 rfl Tryz.ntmps184 rfl (args := [_, _]) rfl ?_
  refine VC_sound tabOk 100 ?_
  refine Go_ops rfl (OpTo_pcall rfl rfl rfl rfl rfl (by kernel_rfl) (fun w hm _ => sl_index A c zs x w (hA.mod hm) hn) ?_)
  refine VC_sound tabOk 100 ?_
  exact congrArg Value.bool (idxI_mem zs x)

set_option maxHeartbeats 400000 in
theorem r01_has (A : Option Addr) (c : Nat) (zs : List Int) (x : Int) (w0 : World) (hA : RdI w0 A zs) (hn : zs.length ≤ 4611686018427387904) :
    Calls Tryz.prog 110 #[.slice A zs.length c, .int .i64 x] w0 fun e w' => e = .returned (.bool (zs.contains x)) ∧ BelowD w0.heap.size w0 w' := by
  refine enterP (tab := tab) Tryz.func110 rfl Tryz.ntmps110 rfl (args := [_, _]) rfl ?_
  refine VC_sound tabOk 100 ?_
  refine Go_loop (σ := Nat) (fun i => [(0, .v (.slice A zs.length c)), (1, .v (.int .i64 x)), (5, .v (.int .i64 i))]) (fun _ => []) (fun i => i ≤ zs.length ∧ ∀ j (h : j < zs.length), j < i → zs[j] ≠ x) (fun i => zs.length - i) 0 ⟨Nat.zero_le _, fun _ _ h => by omega⟩ ⟨rfl, rfl, rfl, trivial⟩ (fun _ h => h) ?_
  intro i ⟨hi, hne⟩
  refine VC_sound tabOk 100 ?_
  refine ⟨fun hb => ?_, fun hb => ?_⟩
  · have hlt : i < zs.length := by simpa using hb
    obtain ⟨b, o, rfl⟩ := RdI.some hA (ne_nil_of_lt hlt)
    refine ⟨⟨by omega, by omega⟩, ?_⟩
    refine Go_ops rfl (OpTo_loadRow tabOk (encI_is .i64) (.int .i64 zs[i]) rfl rfl rfl rfl rfl (fun _ => rfl) (fun w hm _ => hA.mod hm) (List.getElem?_eq_getElem hlt) rfl ?_)
    refine VC_sound tabOk 100 ?_
    refine ⟨fun hb => ?_, fun hb => ?_⟩
    · refine congrArg Value.bool (?_ : true = zs.contains x)
      have := of_decide_eq_true hb
      simpa using List.mem_iff_getElem.2 ⟨i, hlt, this⟩
    · refine ⟨_, wrap_i64 (n := (i : Int) + 1) (by omega) (by omega), ?_⟩
      refine Go_fin (i + 1) ⟨by omega, fun j h hj => ?_⟩ (by omega) ⟨rfl, rfl, rfl, trivial⟩ (fun _ h => h)
      by_cases e : j = i
      · subst e; exact of_decide_eq_false hb
      · exact hne j h (by omega)
  · have hge : ¬ i < zs.length := by simpa using hb
    refine congrArg Value.bool (?_ : false = zs.contains x)
    symm
    simp only [List.contains_eq_mem, decide_eq_false_iff_not]
    intro hx
    obtain ⟨j, hj, e⟩ := List.mem_iff_getElem.1 hx
    exact hne j hj (by omega) e

theorem eq_of_ats {zs ys : List Int} (hl : zs.length = ys.length) (h : ∀ j (h1 : j < zs.length) (h2 : j < ys.length), zs[j] = ys[j]) : decide (zs = ys) = true := by
  simpa using List.ext_getElem hl fun j h1 h2 => h j h1 h2

set_option maxHeartbeats 400000 in
theorem r01_ints (A B : Option Addr) (c d : Nat) (zs ys : List Int) (w0 : World) (hA : RdI w0 A zs) (hB : RdI w0 B ys) (hn : zs.length ≤ 4611686018427387904) :
    Calls Tryz.prog 115 #[.slice A zs.length c, .slice B ys.length d] w0 fun e w' => e = .returned (.bool (decide (zs = ys))) ∧ BelowD w0.heap.size w0 w' := by
  refine enterP (tab := tab) Tryz.func115 rfl Tryz.ntmps115 rfl (args := [_, _]) rfl ?_
  refine VC_sound tabOk 100 ?_
  refine ⟨fun hb => ?_, fun hb => ?_⟩
  · refine congrArg Value.bool (?_ : false = decide (zs = ys))
    have hne : ¬ (zs.length : Int) = ys.length := by simpa using hb
    symm
    exact decide_eq_false fun e => hne (by rw [e])
  · have hl : zs.length = ys.length := by
      have : (zs.length : Int) = ys.length := by simpa using hb
      omega
    refine Go_loop (σ := Nat) (fun i => [(0, .v (.slice A zs.length c)), (1, .v (.slice B ys.length d)), (5, .v (.int .i64 i))]) (fun _ => []) (fun i => i ≤ zs.length ∧ ∀ j (h1 : j < zs.length) (h2 : j < ys.length), j < i → zs[j] = ys[j]) (fun i => zs.length - i) 0 ⟨Nat.zero_le _, fun _ _ _ h => by omega⟩ ⟨rfl, rfl, rfl, trivial⟩ (fun _ h => h) ?_
    intro i ⟨hi, hne⟩
    refine VC_sound tabOk 100 ?_
    refine ⟨fun hb => ?_, fun hb => ?_⟩
    · have hlt : i < zs.length := by simpa using hb
      have hlt2 : i < ys.length := by omega
      obtain ⟨b, o, rfl⟩ := RdI.some hA (ne_nil_of_lt hlt)
      obtain ⟨b', o', rfl⟩ := RdI.some hB (ne_nil_of_lt hlt2)
      show Go _ _ _ _
      refine Go_any mixed [] [(0, false), (1, false), (2, false), (4, false), (5, false), (6, false), (3, false), (7, false), (8, false)] rfl (by kernel_rfl) (by kernel_rfl) [] (FrmX [heapOf w0]) (FrmX.stable _) (fun w hm _ => ⟨trivial, FrmX.of_mod hm⟩) ?_
      refine VC_sound tabOk 100 ?_
      refine ⟨⟨by omega, by omega⟩, ⟨by omega, by omega⟩, ?_⟩
      refine Go_first (v := .int .i64 zs[i]) rfl rfl rfl rfl (fun w _ hw => rxLoadRow tabOk rfl (encI_is .i64) rfl (fun _ => rfl) (hA.heap.world (hw _ (by simp))) (List.getElem?_eq_getElem hlt) rfl rfl) ?_
      refine VC_sound tabOk 100 ?_
      refine Go_first (v := .int .i64 ys[i]) rfl rfl rfl rfl (fun w _ hw => rxLoadRow tabOk rfl (encI_is .i64) rfl (fun _ => rfl) (hB.heap.world (hw _ (by simp))) (List.getElem?_eq_getElem hlt2) rfl rfl) ?_
      refine VC_sound tabOk 100 ?_
      refine ⟨fun hb => ?_, fun hb => ?_⟩
      · refine congrArg Value.bool (?_ : false = decide (zs = ys))
        have hne : ¬ zs[i] = ys[i] := by simpa using hb
        symm
        exact decide_eq_false fun e => hne (by subst e; rfl)
      · refine ⟨_, wrap_i64 (n := (i : Int) + 1) (by omega) (by omega), ?_⟩
        refine Go_fin (i + 1) ⟨by omega, fun j h1 h2 hj => ?_⟩ (by omega) ⟨rfl, rfl, rfl, trivial⟩ (fun _ h => h)
        by_cases e : j = i
        · subst e; simpa using hb
        · exact hne j h1 h2 (by omega)
    · have hge : ¬ i < zs.length := by simpa using hb
      exact congrArg Value.bool (eq_of_ats hl fun j h1 h2 => hne j h1 h2 (by omega)).symm


/-- What a function value answers, in every world that is behind 'w0'. -/
def AnswersI (P : Program) (w0 : World) (f : FuncId) (first cap : Array Value) (p : Int → Bool) : Prop :=
  ∀ (x : Int) (w : World), BelowD w0.heap.size w0 w → Calls P f (first.toList ++ [Value.int .i64 x] ++ cap.toList).toArray w fun e w' => e = .returned (.bool (p x)) ∧ BelowD w.heap.size w w'

def idxP {α : Type} (p : α → Bool) : List α → Int
  | [] => -1
  | z :: r => if p z = true then 0 else if idxP p r = -1 then -1 else idxP p r + 1
theorem idxP_ge {α : Type} (p : α → Bool) (zs : List α) : -1 ≤ idxP p zs := by
  induction zs with
  | nil => simp [idxP]
  | cons z r ih => simp only [idxP]; split <;> (try split) <;> omega
theorem idxP_at {α : Type} (p : α → Bool) : ∀ (zs : List α) (i : Nat) (h : i < zs.length), p zs[i] = true → (∀ j (h : j < zs.length), j < i → p zs[j] = false) → idxP p zs = i
  | z :: r, 0, h, e, _ => by simp at e; simp [idxP, e]
  | z :: r, i + 1, h, e, hne => by
    have h0 : p z = false := hne 0 (by simp) (by omega)
    have := idxP_at p r i (by simpa using h) (by simpa using e) (fun j hj hlt => hne (j + 1) (by simpa using hj) (by omega))
    simp only [idxP, h0, this]
    rw [if_neg (by simp), if_neg (by omega)]; omega
theorem idxP_none {α : Type} (p : α → Bool) : ∀ (zs : List α), (∀ j (h : j < zs.length), p zs[j] = false) → idxP p zs = -1
  | [], _ => rfl
  | z :: r, hne => by
    have h0 : p z = false := hne 0 (by simp)
    have := idxP_none p r (fun j hj => hne (j + 1) (by simpa using hj))
    simp [idxP, h0, this]
theorem idxP_any {α : Type} (p : α → Bool) (zs : List α) : decide (0 ≤ idxP p zs) = zs.any p := by
  have key : 0 ≤ idxP p zs ↔ zs.any p = true := by
    induction zs with
    | nil => simp [idxP]
    | cons z r ih =>
      have h1 := idxP_ge p r
      have h2 : idxP p (z :: r) = if p z = true then 0 else if idxP p r = -1 then -1 else idxP p r + 1 := rfl
      rw [h2, List.any_cons, Bool.or_eq_true]
      by_cases h : p z = true
      · simp [h]
      · rw [if_neg h]
        split
        · rename_i h3
          rw [← ih, h3]
          constructor
          · intro h4; omega
          · rintro (h4 | h4)
            · exact absurd h4 h
            · omega
        · rename_i h3
          rw [← ih]
          constructor
          · intro h4; right; omega
          · rintro (h4 | h4)
            · exact absurd h4 h
            · omega
  by_cases h : zs.any p = true
  · rw [h]; exact decide_eq_true (key.2 h)
  · rw [Bool.not_eq_true] at h; rw [h]; exact decide_eq_false fun h4 => by rw [key.1 h4] at h; cases h

set_option maxHeartbeats 400000 in
theorem sl_indexFunc (A : Option Addr) (c : Nat) (zs : List Int) (f : FuncId) (first cap : Array Value) (p : Int → Bool) (w0 : World) (hA : RdI w0 A zs) (hn : zs.length ≤ 4611686018427387904) (hf : callable Tryz.prog f = true) (hp : AnswersI Tryz.prog w0 f first cap p) :
    Calls Tryz.prog 229 #[.slice A zs.length c, .func (.func f) first cap] w0 fun e w' => e = .returned (.int .i64 (idxP p zs)) ∧ BelowD w0.heap.size w0 w' := by
  refine enterP (tab := tab) Tryz.func229 rfl Tryz.ntmps229 rfl (args := [_, _]) rfl ?_
  refine VC_sound tabOk 100 ?_
  refine Go_loop (σ := Nat) (fun i => [(0, .v (.slice A zs.length c)), (1, .v (.func (.func f) first cap)), (7, .v (.int .i64 zs.length)), (8, .v (.int .i64 i))]) (fun _ => []) (fun i => i ≤ zs.length ∧ ∀ j (h : j < zs.length), j < i → p zs[j] = false) (fun i => zs.length - i) 0 ⟨Nat.zero_le _, fun _ _ h => by omega⟩ ⟨rfl, rfl, rfl, rfl, trivial⟩ (fun _ h => h) ?_
  intro i ⟨hi, hne⟩
  refine VC_sound tabOk 100 ?_
  refine ⟨fun hb => ?_, fun hb => ?_⟩
  · have hlt : i < zs.length := by simpa using hb
    obtain ⟨b, o, rfl⟩ := RdI.some hA (ne_nil_of_lt hlt)
    refine ⟨⟨by omega, by omega⟩, ?_⟩
    refine Go_ops rfl (OpTo_loadRow tabOk (encI_is .i64) (.int .i64 zs[i]) rfl rfl rfl rfl rfl (fun _ => rfl) (fun w hm _ => hA.mod hm) (List.getElem?_eq_getElem hlt) rfl ?_)
    refine VC_sound tabOk 100 ?_
    refine Go_ops rfl (OpTo_pcall (v := .bool (p zs[i])) (av := first.toList ++ [Value.int .i64 zs[i]] ++ cap.toList) rfl rfl rfl rfl rfl hf (fun w hm hio => hp zs[i] w (hm.below hio)) ?_)
    refine VC_sound tabOk 100 ?_
    refine ⟨fun hb => ?_, fun hb => ?_⟩
    · exact congrArg (Value.int .i64) (idxP_at p zs i hlt hb hne).symm
    · refine ⟨_, wrap_i64 (n := (i : Int) + 1) (by omega) (by omega), ?_⟩
      refine Go_fin (i + 1) ⟨by omega, fun j h hj => ?_⟩ (by omega) ⟨rfl, rfl, rfl, rfl, trivial⟩ (fun _ h => h)
      by_cases e : j = i
      · subst e; exact hb
      · exact hne j h (by omega)
  · have hge : ¬ i < zs.length := by simpa using hb
    exact congrArg (Value.int .i64) (idxP_none p zs fun j h => hne j h (by omega)).symm

set_option maxHeartbeats 400000 in
theorem sl_containsFunc (A : Option Addr) (c : Nat) (zs : List Int) (f : FuncId) (first cap : Array Value) (p : Int → Bool) (w0 : World) (hA : RdI w0 A zs) (hn : zs.length ≤ 4611686018427387904) (hf : callable Tryz.prog f = true) (hp : AnswersI Tryz.prog w0 f first cap p) :
    Calls Tryz.prog 202 #[.slice A zs.length c, .func (.func f) first cap] w0 fun e w' => e = .returned (.bool (zs.any p)) ∧ BelowD w0.heap.size w0 w' := by
  refine enterP (tab := tab) Tryz.func202 rfl Tryz.ntmps202 rfl (args := [_, _]) rfl ?_
  refine VC_sound tabOk 100 ?_
  refine Go_ops rfl (OpTo_pcall rfl rfl rfl rfl rfl (by kernel_rfl) (fun w hm hio => sl_indexFunc A c zs f first cap p w (hA.mod hm) hn hf (fun x w2 hb => hp x w2 ((hm.below hio).trans (hb.mono hio.size)))) ?_)
  refine VC_sound tabOk 100 ?_
  exact congrArg Value.bool (idxP_any p zs)

end Go.Proofs.YthpcahgdobnljaaGreat
