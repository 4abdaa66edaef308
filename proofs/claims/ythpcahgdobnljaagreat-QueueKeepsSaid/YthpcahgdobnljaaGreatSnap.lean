/- What the functions of package snap do, and the references' of layer 5. -/
import Derived.Test.YthpcahgdobnljaaGreatSl64
set_option maxRecDepth 100000
set_option autoImplicit false
set_option linter.unusedVariables false
namespace Go.Proofs.YthpcahgdobnljaaGreat
open Go.RX Go Go.RowKit


/-- A snapshot as a value. -/
abbrev snV (mx : Int) (A : Option Addr) (n c : Nat) : Value := .agg #[.int .i64 mx, .slice A n c]

def snSees (mx : Int) (op : List Int) (x : Int) : Bool := decide (1 ≤ x) && (decide (x < mx) && !op.contains x)
def snLeast (mx : Int) : List Int → Int
  | [] => mx
  | z :: _ => z
def rightFrom (mx : Int) : Int → List Int → Bool
  | _, [] => true
  | last, x :: r => if x ≤ last then false else if mx ≤ x then false else rightFrom mx x r
def snRight (mx : Int) (op : List Int) : Bool := rightFrom mx 0 op && decide (1 ≤ mx)
def snHidden (amx : Int) (bop : List Int) : Nat := (bop.filter fun x => decide (amx ≤ x)).length
def snCovers (amx : Int) (aop : List Int) (bmx : Int) (bop : List Int) : Bool := !aop.any (snSees bmx bop) && (decide (bmx ≤ amx) || decide ((snHidden amx bop : Int) = bmx - amx))

set_option maxHeartbeats 400000 in
theorem snap_sees (mx : Int) (A : Option Addr) (c : Nat) (op : List Int) (x : Int) (w0 : World) (hA : RdI w0 A op) (hn : op.length ≤ 4611686018427387904) :
    Calls Tryz.prog 154 #[snV mx A op.length c, .int .i64 x] w0 fun e w' => e = .returned (.bool (snSees mx op x)) ∧ BelowD w0.heap.size w0 w' := by
  refine enterP (tab := tab) Tryz.func154 rfl Tryz.ntmps154 rfl (args := [_, _]) rfl ?_
  refine VC_sound tabOk 100 ?_
  intro bb _
  refine ⟨fun h1 => ?_, fun h1 => congrArg Value.bool (by simp [snSees, h1])⟩
  refine .inl ⟨rfl, ?_⟩
  refine ⟨fun h2 => ?_, fun h2 => congrArg Value.bool (by simp [snSees, h1, h2])⟩
  refine .inl ⟨rfl, ?_⟩
  refine Go_ops rfl (OpTo_pcall rfl rfl rfl rfl rfl (by kernel_rfl) (fun w hm _ => sl_contains A c op x w (hA.mod hm) hn) ?_)
  refine VC_sound tabOk 100 ?_
  exact congrArg Value.bool (by simp [snSees, h1, h2])

set_option maxHeartbeats 400000 in
theorem r05_sees (mx : Int) (A : Option Addr) (c : Nat) (op : List Int) (x : Int) (w0 : World) (hA : RdI w0 A op) (hn : op.length ≤ 4611686018427387904) :
    Calls Tryz.prog 46 #[snV mx A op.length c, .int .i64 x] w0 fun e w' => e = .returned (.bool (snSees mx op x)) ∧ BelowD w0.heap.size w0 w' := by
  refine enterP (tab := tab) Tryz.func46 rfl Tryz.ntmps46 rfl (args := [_, _]) rfl ?_
  refine VC_sound tabOk 100 ?_
  intro bb _
  refine ⟨fun h1 => ?_, fun h1 => congrArg Value.bool (by simp [snSees, h1])⟩
  refine .inl ⟨rfl, ?_⟩
  refine ⟨fun h2 => ?_, fun h2 => congrArg Value.bool (by simp [snSees, h1, h2])⟩
  refine .inl ⟨rfl, ?_⟩
  refine Go_ops rfl (OpTo_pcall rfl rfl rfl rfl rfl (by kernel_rfl) (fun w hm _ => r01_has A c op x w (hA.mod hm) hn) ?_)
  refine VC_sound tabOk 100 ?_
  exact congrArg Value.bool (by simp [snSees, h1, h2])




theorem rightFrom_cons (mx last : Int) (op : List Int) (i : Nat) (h : i < op.length) : rightFrom mx last (op.drop i) = if op[i] ≤ last then false else if mx ≤ op[i] then false else rightFrom mx op[i] (op.drop (i + 1)) := by
  rw [List.drop_eq_getElem_cons h]; rfl

set_option maxHeartbeats 400000 in
theorem snap_right (mx : Int) (A : Option Addr) (c : Nat) (op : List Int) (w0 : World) (hA : RdI w0 A op) (hn : op.length ≤ 4611686018427387904) :
    Calls Tryz.prog 178 #[snV mx A op.length c] w0 fun e w' => e = .returned (.bool (snRight mx op)) ∧ BelowD w0.heap.size w0 w' := by
  refine enterP (tab := tab) Tryz.func178 rfl Tryz.ntmps178 rfl (args := [_]) rfl ?_
  refine VC_sound tabOk 100 ?_
  intro bb _
  (repeat (first | refine Or.inl ⟨rfl, rfl, ?_⟩ | refine Or.inl ⟨rfl, ?_⟩ | refine Or.inr ?_))
  refine Go_loop (σ := Nat × Int) (fun s => [(1, .v (.pointer (some ⟨bb, 0, none⟩))), (3, .v (.int .i64 s.2)), (7, .v (.slice A op.length c)), (8, .v (.int .i64 op.length)), (9, .v (.int .i64 s.1))]) (fun _ => [.blk bb 42 [.int .i64 mx, .slice A op.length c]])
    (fun s => s.1 ≤ op.length ∧ rightFrom mx 0 op = rightFrom mx s.2 (op.drop s.1)) (fun s => op.length - s.1) (0, 0) ⟨Nat.zero_le _, rfl⟩ ⟨rfl, rfl, rfl, rfl, rfl, trivial⟩ (fun _ h => h) ?_
  rintro ⟨i, last⟩ ⟨hi, hne⟩
  refine VC_sound tabOk 100 ?_
  refine ⟨fun hb => ?_, fun hb => ?_⟩
  · have hlt : i < op.length := by simpa using hb
    obtain ⟨b, o, rfl⟩ := RdI.some hA (ne_nil_of_lt hlt)
    have hc := rightFrom_cons mx last op i hlt
    refine ⟨⟨by omega, by omega⟩, ?_⟩
    refine .inr ?_
    refine Go_ops rfl (OpTo_loadRow tabOk (encI_is .i64) (.int .i64 op[i]) rfl rfl rfl rfl rfl (fun _ => rfl) (fun w hm _ => hA.mod hm) (List.getElem?_eq_getElem hlt) rfl ?_)
    refine VC_sound tabOk 100 ?_
    refine ⟨fun h1 => ?_, fun h1 => ?_⟩
    · refine congrArg Value.bool (?_ : false = snRight mx op)
      rw [snRight, hne, hc, if_pos (of_decide_eq_true h1)]; rfl
    · (repeat (first | refine Or.inl ⟨rfl, rfl, ?_⟩ | refine Or.inl ⟨rfl, ?_⟩ | refine Or.inr ?_))
      refine ⟨fun h2 => ?_, fun h2 => ?_⟩
      · refine congrArg Value.bool (?_ : false = snRight mx op)
        rw [snRight, hne, hc, if_neg (of_decide_eq_false h1), if_pos (of_decide_eq_true h2)]; rfl
      · refine ⟨_, wrap_i64 (n := (i : Int) + 1) (by omega) (by omega), ?_⟩
        refine Go_fin (i + 1, op[i]) ⟨by simp; omega, ?_⟩ (by simp; omega) ⟨rfl, rfl, rfl, rfl, rfl, trivial⟩ (fun _ h => h)
        rw [hne, hc, if_neg (of_decide_eq_false h1), if_neg (of_decide_eq_false h2)]
  · have hge : ¬ i < op.length := by simpa using hb
    (repeat (first | refine Or.inl ⟨rfl, rfl, ?_⟩ | refine Or.inl ⟨rfl, ?_⟩ | refine Or.inr ?_))
    refine congrArg Value.bool (?_ : decide (1 ≤ mx) = snRight mx op)
    rw [snRight, hne, List.drop_eq_nil_of_le (by simp; omega)]; simp [rightFrom]

/-- What the reference asks of one place. -/
def rightAt (mx : Int) (op : List Int) (i : Nat) : Bool := decide (1 ≤ op.getD i 0) && decide (op.getD i 0 < mx) && (i == 0 || decide (op.getD (i - 1) 0 < op.getD i 0))
theorem rightFrom_iff (mx : Int) : ∀ (op : List Int) (last : Int), 0 ≤ last → (rightFrom mx last op = true ↔ ∀ i, i < op.length → last < op.getD i 0 ∧ op.getD i 0 < mx ∧ (i = 0 ∨ op.getD (i - 1) 0 < op.getD i 0))
  | [], last, _ => by simp [rightFrom]
  | x :: r, last, h0 => by
    simp only [rightFrom]
    split
    · rename_i h
      simp only [Bool.false_eq_true, false_iff]
      intro hh
      have := (hh 0 (by simp)).1
      simp at this; omega
    · rename_i h
      split
      · rename_i h'
        simp only [Bool.false_eq_true, false_iff]
        intro hh
        have := (hh 0 (by simp)).2.1
        simp at this; omega
      · rename_i h'
        rw [rightFrom_iff mx r x (by omega)]
        constructor
        · intro hh i hi
          cases i with
          | zero => simp; omega
          | succ i =>
            have h1 := hh i (by simpa using hi)
            have : (x :: r).getD (i + 1 - 1) 0 < (x :: r).getD (i + 1) 0 := by
              cases i with
              | zero => simpa using h1.1
              | succ j => simpa using h1.2.2
            exact ⟨by simp at h1 ⊢; omega, by simpa using h1.2.1, .inr this⟩
        · intro hh i hi
          have h1 := hh (i + 1) (by simpa using hi)
          refine ⟨?_, by simpa using h1.2.1, ?_⟩
          · clear h1
            induction i with
            | zero => have := (hh 1 (by simpa using hi)).2.2; simpa using this
            | succ j ih =>
              have h3 := ih (by omega)
              have := (hh (j + 1 + 1) (by simpa using hi)).2.2
              simp at this h3 ⊢; omega
          · cases i with
            | zero => exact .inl rfl
            | succ j => exact .inr (by simpa using h1.2.2)

set_option maxHeartbeats 1000000 in
theorem r05_right (mx : Int) (A : Option Addr) (c : Nat) (op : List Int) (w0 : World) (hA : RdI w0 A op) (hn : op.length ≤ 4611686018427387904) :
    Calls Tryz.prog 113 #[snV mx A op.length c] w0 fun e w' => e = .returned (.bool (snRight mx op)) ∧ BelowD w0.heap.size w0 w' := by
  have hfalse : ∀ i, i < op.length → ¬ (0 < op.getD i 0 ∧ op.getD i 0 < mx ∧ (i = 0 ∨ op.getD (i - 1) 0 < op.getD i 0)) → Value.bool false = Value.bool (snRight mx op) := by
    intro i hi hno
    refine congrArg Value.bool ?_
    have : rightFrom mx 0 op = false := by
      cases h : rightFrom mx 0 op with
      | false => rfl
      | true => exact absurd ((rightFrom_iff mx op 0 (Int.le_refl 0)).1 h i hi) hno
    simp [snRight, this]
  refine enterP (tab := tab) Tryz.func113 rfl Tryz.ntmps113 rfl (args := [_]) rfl ?_
  refine VC_sound tabOk 100 ?_
  intro bb _
  refine Go_loop (σ := Nat) (fun i => [(1, .v (.pointer (some ⟨bb, 0, none⟩))), (3, .v (.int .i64 i))]) (fun _ => [.blk bb 42 [.int .i64 mx, .slice A op.length c]])
    (fun i => i ≤ op.length ∧ ∀ j, j < i → 0 < op.getD j 0 ∧ op.getD j 0 < mx ∧ (j = 0 ∨ op.getD (j - 1) 0 < op.getD j 0)) (fun i => op.length - i) 0 ⟨Nat.zero_le _, fun _ h => by omega⟩ ⟨rfl, rfl, trivial⟩ (fun _ h => h) ?_
  intro i ⟨hi, hne⟩
  refine VC_sound tabOk 100 ?_
  (repeat (first | refine Or.inl ⟨rfl, rfl, ?_⟩ | refine Or.inl ⟨rfl, ?_⟩ | refine Or.inr ?_))
  refine ⟨fun hb => ?_, fun hb => ?_⟩
  · have hlt : i < op.length := by simpa using hb
    obtain ⟨b, o, rfl⟩ := RdI.some hA (ne_nil_of_lt hlt)
    have hd : op.getD i 0 = op[i] := by simp [hlt]
    show Go _ _ _ _
    refine Go_any mixed [] [(0, false), (2, false), (1, false), (3, false), (4, false), (5, false), (6, false), (7, false), (9, false), (12, false), (8, false), (10, false), (11, false), (13, false), (14, false), (15, false), (16, false), (17, false), (18, false), (19, false), (20, false), (22, false), (25, false), (27, false), (28, false), (21, false), (23, false), (24, false), (26, false), (29, false), (30, false), (31, false), (32, false), (33, false)] rfl (by kernel_rfl) (by kernel_rfl) [.blk bb 42 [.int .i64 mx, .slice (some ⟨b, o, none⟩) op.length c]] (FrmX [heapOf w0]) (FrmX.stable _) (fun w hm _ => ⟨Holds.of_mod hm (by simp), FrmX.of_mod hm⟩) ?_
    refine VC_sound tabOk 100 ?_
    (repeat (first | refine Or.inl ⟨rfl, rfl, ?_⟩ | refine Or.inl ⟨rfl, ?_⟩ | refine Or.inr ?_))
    refine ⟨⟨by omega, by omega⟩, ?_⟩
    refine .inr ?_
    refine Go_first (v := .int .i64 op[i]) rfl rfl rfl rfl (fun w _ hw => rxLoadRow tabOk rfl (encI_is .i64) rfl (fun _ => rfl) (hA.heap.world (hw _ (by simp))) (List.getElem?_eq_getElem hlt) rfl rfl) ?_
    refine VC_sound tabOk 100 ?_
    refine ⟨fun h1 => ?_, fun h1 => ?_⟩
    · exact hfalse i hlt (by have := of_decide_eq_true h1; rw [hd]; omega)
    · (repeat (first | refine Or.inl ⟨rfl, rfl, ?_⟩ | refine Or.inl ⟨rfl, ?_⟩ | refine Or.inr ?_))
      refine ⟨⟨by omega, by omega⟩, ?_⟩
      refine .inr ?_
      refine Go_first (v := .int .i64 op[i]) rfl rfl rfl rfl (fun w _ hw => rxLoadRow tabOk rfl (encI_is .i64) rfl (fun _ => rfl) (hA.heap.world (hw _ (by simp))) (List.getElem?_eq_getElem hlt) rfl rfl) ?_
      refine VC_sound tabOk 100 ?_
      (repeat (first | refine Or.inl ⟨rfl, rfl, ?_⟩ | refine Or.inl ⟨rfl, ?_⟩ | refine Or.inr ?_))
      refine ⟨fun h2 => ?_, fun h2 => ?_⟩
      · exact hfalse i hlt (by have := of_decide_eq_true h2; rw [hd]; omega)
      · refine ⟨fun h3 => ?_, fun h3 => ?_⟩
        · have hpos : 0 < i := by simpa using h3
          have hlt' : i - 1 < op.length := by omega
          have hd' : op.getD (i - 1) 0 = op[i - 1] := by simp [hlt']
          refine ⟨_, wrap_i64 (n := (i : Int) - 1) (by omega) (by omega), ?_⟩
          (repeat (first | refine Or.inl ⟨rfl, rfl, ?_⟩ | refine Or.inl ⟨rfl, ?_⟩ | refine Or.inr ?_))
          refine ⟨⟨by omega, by omega⟩, ?_⟩
          refine .inr ?_
          refine Go_first (v := .int .i64 op[i]) rfl rfl rfl rfl (fun w _ hw => rxLoadRow tabOk rfl (encI_is .i64) rfl (fun _ => rfl) (hA.heap.world (hw _ (by simp))) (List.getElem?_eq_getElem hlt) rfl rfl) ?_
          refine VC_sound tabOk 100 ?_
          (repeat (first | refine Or.inl ⟨rfl, rfl, ?_⟩ | refine Or.inl ⟨rfl, ?_⟩ | refine Or.inr ?_))
          refine ⟨⟨by omega, by omega⟩, ?_⟩
          refine .inr ?_
          refine Go_first (v := .int .i64 op[i - 1]) rfl rfl rfl rfl (fun w _ hw => rxLoadRow tabOk rfl (encI_is .i64) rfl (fun _ => rfl) (hA.heap.world (hw _ (by simp))) (List.getElem?_eq_getElem hlt') (by simp only [addA, Nat.mul_one]; congr 2; omega) rfl) ?_
          refine VC_sound tabOk 100 ?_
          refine ⟨fun h4 => ?_, fun h4 => ?_⟩
          · exact hfalse i hlt (by have := of_decide_eq_true h4; rw [hd, hd']; omega)
          · refine ⟨_, wrap_i64 (n := (i : Int) + 1) (by omega) (by omega), ?_⟩
            refine Go_fin (i + 1) ⟨by omega, fun j hj => ?_⟩ (by omega) ⟨rfl, rfl, trivial⟩ (fun _ h => h)
            by_cases e : j = i
            · subst e
              have k1 := of_decide_eq_false h1
              have k2 := of_decide_eq_false h2
              have k4 := of_decide_eq_false h4
              rw [hd, hd']
              exact ⟨by omega, by omega, .inr (by omega)⟩
            · exact hne j (by omega)
        · have h0 : i = 0 := by
            have : ¬ 0 < (i : Int) := by simpa using h3
            omega
          refine ⟨_, wrap_i64 (n := (i : Int) + 1) (by omega) (by omega), ?_⟩
          refine Go_fin (i + 1) ⟨by omega, fun j hj => ?_⟩ (by omega) ⟨rfl, rfl, trivial⟩ (fun _ h => h)
          have e : j = i := by omega
          subst e
          have k1 := of_decide_eq_false h1
          have k2 := of_decide_eq_false h2
          rw [hd]
          exact ⟨by omega, by omega, .inl h0⟩
  · have hge : ¬ i < op.length := by simpa using hb
    (repeat (first | refine Or.inl ⟨rfl, rfl, ?_⟩ | refine Or.inl ⟨rfl, ?_⟩ | refine Or.inr ?_))
    refine congrArg Value.bool (?_ : decide (1 ≤ mx) = snRight mx op)
    have : rightFrom mx 0 op = true := (rightFrom_iff mx op 0 (Int.le_refl 0)).2 fun j hj => hne j (by omega)
    simp [snRight, this]

set_option maxHeartbeats 400000 in
theorem snap_cov1 (mx : Int) (A : Option Addr) (c : Nat) (op : List Int) (x : Int) (bb : Nat) (w0 : World) (hb : w0.heap[bb]? = some (.cells #[.int .i64 mx, .slice A op.length c] 42 (0, 0))) (hA : RdI w0 A op) (hn : op.length ≤ 4611686018427387904) :
    Calls Tryz.prog 203 #[.int .i64 x, .pointer (some ⟨bb, 0, none⟩)] w0 fun e w' => e = .returned (.bool (snSees mx op x)) ∧ BelowD w0.heap.size w0 w' := by
  refine enterP (tab := tab) Tryz.func203 rfl Tryz.ntmps203 rfl (args := [_, _]) rfl ?_
  refine VC_sound tabOk 100 ?_
  refine Go_ops rfl (OpTo_loadBlk tabOk (cs := [.int .i64 mx, .slice A op.length c]) (snV mx A op.length c) rfl rfl rfl (fun w hm _ => hm.block_old hb) rfl ?_)
  refine VC_sound tabOk 100 ?_
  refine Go_ops rfl (OpTo_pcall rfl rfl rfl rfl rfl (by kernel_rfl) (fun w hm _ => snap_sees mx A c op x w (hA.mod hm) hn) ?_)
  refine VC_sound tabOk 100 ?_
  rfl

theorem snHidden_take (amx : Int) (bop : List Int) (i : Nat) (h : i < bop.length) : snHidden amx (bop.take (i + 1)) = snHidden amx (bop.take i) + if amx ≤ bop[i] then 1 else 0 := by
  unfold snHidden
  rw [List.take_succ_eq_append_getElem h, List.filter_append, List.length_append]
  congr 1
  by_cases hh : amx ≤ bop[i] <;> simp [hh]
theorem snHidden_le (amx : Int) (bop : List Int) : snHidden amx bop ≤ bop.length := List.length_filter_le _ _
theorem snHidden_take_le (amx : Int) (bop : List Int) (i : Nat) : snHidden amx (bop.take i) ≤ bop.length := Nat.le_trans (snHidden_le _ _) (by simp; omega)

set_option maxHeartbeats 800000 in
theorem snap_covers (amx bmx : Int) (A B : Option Addr) (c d : Nat) (aop bop : List Int) (w0 : World) (hA : RdI w0 A aop) (hB : RdI w0 B bop) (hn : aop.length ≤ 4611686018427387904) (hn2 : bop.length ≤ 4611686018427387904)
    (ha : 0 ≤ amx ∧ amx ≤ 9223372036854775807) (hb : 0 ≤ bmx ∧ bmx ≤ 9223372036854775807) :
    Calls Tryz.prog 179 #[snV amx A aop.length c, snV bmx B bop.length d] w0 fun e w' => e = .returned (.bool (snCovers amx aop bmx bop)) ∧ BelowD w0.heap.size w0 w' := by
  refine enterP (tab := tab) Tryz.func179 rfl Tryz.ntmps179 rfl (args := [_, _]) rfl ?_
  refine VC_sound tabOk 100 ?_
  intro ba _ bb _
  (repeat (first | refine Or.inl ⟨rfl, rfl, ?_⟩ | refine Or.inl ⟨rfl, ?_⟩ | refine Or.inr ?_))
  refine Go_ops rfl (OpTo_pcall rfl rfl rfl rfl rfl (by kernel_rfl) (fun w hm _ => sl_containsFunc A c aop 203 #[] #[.pointer (some ⟨bb, 0, none⟩)] (snSees bmx bop) w (hA.mod hm) hn (by kernel_rfl) (fun x w2 h2 => snap_cov1 bmx B d bop x bb w2 ((h2.block bb (Array.getElem?_eq_some_iff.1 (hm.blk_at (i := 0) rfl)).1).trans (hm.blk_at (i := 0) rfl)) ((hB.mod hm).io h2) hn2)) ?_)
  refine VC_sound tabOk 100 ?_
  (repeat (first | refine Or.inl ⟨rfl, rfl, ?_⟩ | refine Or.inl ⟨rfl, ?_⟩ | refine Or.inr ?_))
  refine Go_loop (σ := Nat) (fun i => [(2, .v (.pointer (some ⟨ba, 0, none⟩))), (3, .v (.pointer (some ⟨bb, 0, none⟩))), (5, .v (.bool (aop.any (snSees bmx bop)))), (6, .v (.int .i64 (snHidden amx (bop.take i)))), (14, .v (.slice B bop.length d)), (15, .v (.int .i64 bop.length)), (16, .v (.int .i64 i))])
    (fun _ => [.blk bb 42 [.int .i64 bmx, .slice B bop.length d], .blk ba 42 [.int .i64 amx, .slice A aop.length c]])
    (fun i => i ≤ bop.length) (fun i => bop.length - i) 0 (Nat.zero_le _) ⟨rfl, rfl, rfl, rfl, rfl, rfl, rfl, trivial⟩ (fun _ h => h) ?_
  intro i hi
  refine VC_sound tabOk 100 ?_
  refine ⟨fun h1 => ?_, fun h1 => ?_⟩
  · have hlt : i < bop.length := by simpa using h1
    obtain ⟨b, o, rfl⟩ := RdI.some hB (ne_nil_of_lt hlt)
    have hs := snHidden_take amx bop i hlt
    have hle := snHidden_take_le amx bop i
    refine ⟨⟨by omega, by omega⟩, ?_⟩
    (repeat (first | refine Or.inl ⟨rfl, rfl, ?_⟩ | refine Or.inl ⟨rfl, ?_⟩ | refine Or.inr ?_))
    refine Go_ops rfl (OpTo_loadRow tabOk (encI_is .i64) (.int .i64 bop[i]) rfl rfl rfl rfl rfl (fun _ => rfl) (fun w hm _ => hB.mod hm) (List.getElem?_eq_getElem hlt) rfl ?_)
    refine VC_sound tabOk 100 ?_
    (repeat (first | refine Or.inl ⟨rfl, rfl, ?_⟩ | refine Or.inl ⟨rfl, ?_⟩ | refine Or.inr ?_))
    refine ⟨fun h2 => ?_, fun h2 => ?_⟩
    · refine ⟨_, wrap_i64 (n := (snHidden amx (bop.take i) : Int) + 1) (by omega) (by omega), ?_⟩
      refine ⟨_, wrap_i64 (n := (i : Int) + 1) (by omega) (by omega), ?_⟩
      refine Go_fin (i + 1) (by omega) (by omega) ⟨rfl, rfl, rfl, congrArg (Value.int .i64) ?_, rfl, rfl, rfl, trivial⟩ (fun _ h => h)
      rw [hs, if_pos (of_decide_eq_true h2)]; simp
    · refine ⟨_, wrap_i64 (n := (i : Int) + 1) (by omega) (by omega), ?_⟩
      refine Go_fin (i + 1) (by omega) (by omega) ⟨rfl, rfl, rfl, congrArg (Value.int .i64) ?_, rfl, rfl, rfl, trivial⟩ (fun _ h => h)
      rw [hs, if_neg (of_decide_eq_false h2)]; simp
  · have hge : ¬ i < bop.length := by simpa using h1
    have ht : bop.take i = bop := List.take_of_length_le (by omega)
    rw [ht]
    refine ⟨fun h2 => ?_, fun h2 => congrArg Value.bool (by simp at h2; simp [snCovers]; exact fun h => absurd h (by simpa using h2))⟩
    (repeat (first | refine Or.inl ⟨rfl, rfl, ?_⟩ | refine Or.inl ⟨rfl, ?_⟩ | refine Or.inr ?_))
    refine ⟨fun h3 => congrArg Value.bool (by simp only [snCovers, h2, h3]; rfl), fun h3 => ?_⟩
    (repeat (first | refine Or.inl ⟨rfl, rfl, ?_⟩ | refine Or.inl ⟨rfl, ?_⟩ | refine Or.inr ?_))
    refine ⟨_, wrap_i64 (n := bmx - amx) (by omega) (by omega), ?_⟩
    exact congrArg Value.bool (by simp only [snCovers, h2, h3]; rfl)

set_option maxHeartbeats 800000 in
theorem r05_covers (amx bmx : Int) (A B : Option Addr) (c d : Nat) (aop bop : List Int) (w0 : World) (hA : RdI w0 A aop) (hB : RdI w0 B bop) (hn : aop.length ≤ 4611686018427387904) (hn2 : bop.length ≤ 4611686018427387904)
    (ha : 0 ≤ amx ∧ amx ≤ 9223372036854775807) (hb : 0 ≤ bmx ∧ bmx ≤ 9223372036854775807) :
    Calls Tryz.prog 114 #[snV amx A aop.length c, snV bmx B bop.length d] w0 fun e w' => e = .returned (.bool (snCovers amx aop bmx bop)) ∧ BelowD w0.heap.size w0 w' := by
  refine enterP (tab := tab) Tryz.func114 rfl Tryz.ntmps114 rfl (args := [_, _]) rfl ?_
  refine VC_sound tabOk 100 ?_
  intro ba _ bb _
  refine Go_loop (σ := Nat) (fun i => [(2, .v (.pointer (some ⟨ba, 0, none⟩))), (3, .v (.pointer (some ⟨bb, 0, none⟩))), (5, .v (.int .i64 i))])
    (fun _ => [.blk bb 42 [.int .i64 bmx, .slice B bop.length d], .blk ba 42 [.int .i64 amx, .slice A aop.length c]])
    (fun i => i ≤ aop.length ∧ ∀ j (h : j < aop.length), j < i → snSees bmx bop aop[j] = false) (fun i => aop.length - i) 0 ⟨Nat.zero_le _, fun _ _ h => by omega⟩ ⟨rfl, rfl, rfl, trivial⟩ (fun _ h => h) ?_
  intro i ⟨hi, hne⟩
  refine VC_sound tabOk 100 ?_
  (repeat (first | refine Or.inl ⟨rfl, rfl, ?_⟩ | refine Or.inl ⟨rfl, ?_⟩ | refine Or.inr ?_))
  refine ⟨fun h1 => ?_, fun h1 => ?_⟩
  · have hlt : i < aop.length := by simpa using h1
    obtain ⟨b, o, rfl⟩ := RdI.some hA (ne_nil_of_lt hlt)
    show Go _ _ _ _
    refine Go_any mixed [6] [(1, false), (3, false), (0, false), (2, false), (4, false), (5, false), (6, true)] rfl (by kernel_rfl) (by kernel_rfl) [.blk bb 42 [.int .i64 bmx, .slice B bop.length d], .blk ba 42 [.int .i64 amx, .slice (some ⟨b, o, none⟩) aop.length c]] (FrmX [heapOf w0]) (FrmX.stable _) (fun w hm _ => ⟨Holds.of_mod hm (by simp), FrmX.of_mod hm⟩) ?_
    refine VC_sound tabOk 100 ?_
    (repeat (first | refine Or.inl ⟨rfl, rfl, ?_⟩ | refine Or.inl ⟨rfl, ?_⟩ | refine Or.inr ?_))
    refine ⟨⟨by omega, by omega⟩, ?_⟩
    (repeat (first | refine Or.inl ⟨rfl, rfl, ?_⟩ | refine Or.inl ⟨rfl, ?_⟩ | refine Or.inr ?_))
    refine Go_first (v := .int .i64 aop[i]) rfl rfl rfl rfl (fun w _ hw => rxLoadRow tabOk rfl (encI_is .i64) rfl (fun _ => rfl) (hA.heap.world (hw _ (by simp))) (List.getElem?_eq_getElem hlt) rfl rfl) ?_
    refine VC_sound tabOk 100 ?_
    refine Go_aloneM rfl rfl rfl (OpTo_pcall (v := .bool (snSees bmx bop aop[i])) rfl rfl rfl rfl rfl (by kernel_rfl) (fun w hm _ => r05_sees bmx B d bop aop[i] w (hB.mod hm) hn2) ?_)
    refine VC_sound tabOk 100 ?_
    refine ⟨fun h2 => ?_, fun h2 => ?_⟩
    · refine congrArg Value.bool (?_ : false = snCovers amx aop bmx bop)
      have : aop.any (snSees bmx bop) = true := List.any_eq_true.2 ⟨aop[i], by simp, h2⟩
      simp [snCovers, this]
    · refine ⟨_, wrap_i64 (n := (i : Int) + 1) (by omega) (by omega), ?_⟩
      refine Go_fin (i + 1) ⟨by omega, fun j h hj => ?_⟩ (by omega) ⟨rfl, rfl, rfl, trivial⟩ (fun _ h => h)
      by_cases e : j = i
      · subst e; exact h2
      · exact hne j h (by omega)
  · have hge : ¬ i < aop.length := by simpa using h1
    have hno : aop.any (snSees bmx bop) = false := by
      rw [List.any_eq_false]
      intro x hx
      obtain ⟨j, hj, e⟩ := List.mem_iff_getElem.1 hx
      subst e
      simp [hne j hj (by omega)]
    refine Go_loop (σ := Nat) (fun i => [(2, .v (.pointer (some ⟨ba, 0, none⟩))), (3, .v (.pointer (some ⟨bb, 0, none⟩))), (6, .v (.int .i64 (snHidden amx (bop.take i)))), (7, .v (.int .i64 i))])
      (fun _ => [.blk bb 42 [.int .i64 bmx, .slice B bop.length d], .blk ba 42 [.int .i64 amx, .slice A aop.length c]])
      (fun i => i ≤ bop.length) (fun i => bop.length - i) 0 (Nat.zero_le _) ⟨rfl, rfl, rfl, rfl, trivial⟩ (fun _ h => h) ?_
    intro i hi
    refine VC_sound tabOk 100 ?_
    (repeat (first | refine Or.inl ⟨rfl, rfl, ?_⟩ | refine Or.inl ⟨rfl, ?_⟩ | refine Or.inr ?_))
    refine ⟨fun h1 => ?_, fun h1 => ?_⟩
    · have hlt : i < bop.length := by simpa using h1
      obtain ⟨b, o, rfl⟩ := RdI.some hB (ne_nil_of_lt hlt)
      have hs := snHidden_take amx bop i hlt
      have hle := snHidden_take_le amx bop i
      show Go _ _ _ _
      refine Go_any mixed [] [(0, false), (2, false), (5, false), (1, false), (3, false), (4, false), (6, false), (7, false)] rfl (by kernel_rfl) (by kernel_rfl) [.blk bb 42 [.int .i64 bmx, .slice (some ⟨b, o, none⟩) bop.length d], .blk ba 42 [.int .i64 amx, .slice A aop.length c]] (FrmX [heapOf w0]) (FrmX.stable _) (fun w hm _ => ⟨Holds.of_mod hm (by simp), FrmX.of_mod hm⟩) ?_
      refine VC_sound tabOk 100 ?_
      (repeat (first | refine Or.inl ⟨rfl, rfl, ?_⟩ | refine Or.inl ⟨rfl, ?_⟩ | refine Or.inr ?_))
      refine ⟨⟨by omega, by omega⟩, ?_⟩
      (repeat (first | refine Or.inl ⟨rfl, rfl, ?_⟩ | refine Or.inl ⟨rfl, ?_⟩ | refine Or.inr ?_))
      refine Go_first (v := .int .i64 bop[i]) rfl rfl rfl rfl (fun w _ hw => rxLoadRow tabOk rfl (encI_is .i64) rfl (fun _ => rfl) (hB.heap.world (hw _ (by simp))) (List.getElem?_eq_getElem hlt) rfl rfl) ?_
      refine VC_sound tabOk 100 ?_
      (repeat (first | refine Or.inl ⟨rfl, rfl, ?_⟩ | refine Or.inl ⟨rfl, ?_⟩ | refine Or.inr ?_))
      refine ⟨fun h2 => ?_, fun h2 => ?_⟩
      · refine ⟨_, wrap_i64 (n := (snHidden amx (bop.take i) : Int) + 1) (by omega) (by omega), ?_⟩
        refine ⟨_, wrap_i64 (n := (i : Int) + 1) (by omega) (by omega), ?_⟩
        refine Go_fin (i + 1) (by omega) (by omega) ⟨rfl, rfl, congrArg (Value.int .i64) ?_, rfl, trivial⟩ (fun _ h => h)
        rw [hs, if_pos (of_decide_eq_true h2)]; simp
      · refine ⟨_, wrap_i64 (n := (i : Int) + 1) (by omega) (by omega), ?_⟩
        refine Go_fin (i + 1) (by omega) (by omega) ⟨rfl, rfl, congrArg (Value.int .i64) ?_, rfl, trivial⟩ (fun _ h => h)
        rw [hs, if_neg (of_decide_eq_false h2)]; simp
    · have hge : ¬ i < bop.length := by simpa using h1
      have ht : bop.take i = bop := List.take_of_length_le (by omega)
      rw [ht]
      (repeat (first | refine Or.inl ⟨rfl, rfl, ?_⟩ | refine Or.inl ⟨rfl, ?_⟩ | refine Or.inr ?_))
      refine ⟨fun h3 => congrArg Value.bool (by simp only [snCovers, hno, h3]; rfl), fun h3 => ?_⟩
      (repeat (first | refine Or.inl ⟨rfl, rfl, ?_⟩ | refine Or.inl ⟨rfl, ?_⟩ | refine Or.inr ?_))
      refine ⟨_, wrap_i64 (n := bmx - amx) (by omega) (by omega), ?_⟩
      exact congrArg Value.bool (by simp only [snCovers, hno, h3]; rfl)

end Go.Proofs.YthpcahgdobnljaaGreat
