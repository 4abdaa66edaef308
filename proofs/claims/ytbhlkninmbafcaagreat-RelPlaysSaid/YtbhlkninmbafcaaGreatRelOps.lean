/- What a statement has done: rel's Ops and the reference's; when two lists of them are alike. -/
import Derived.Test.YtbhlkninmbafcaaGreatRel
import Derived.Test.YtbhlkninmbafcaaGreatRxEq
set_option maxRecDepth 100000
set_option autoImplicit false
set_option linter.unusedVariables false
namespace Go.Proofs.YtbhlkninmbafcaaGreat
open Go.RX Go Go.RowKit


structure RowM where
  key : Int
  text : ByteArray
def encR : RowM → List Value := fun x => [.int .i64 x.key, .string x.text]
theorem encR_is : IsEnc encR 2 := ⟨fun _ => rfl, fun x v hv => by simp [encR] at hv; rcases hv with rfl | rfl <;> rfl, by decide⟩
abbrev mkR (x : RowM) : Value := .agg #[.int .i64 x.key, .string x.text]
structure OpM where
  gone : Bool
  row : RowM
def encO : OpM → List Value := fun x => [.bool x.gone, .int .i64 x.row.key, .string x.row.text]
theorem encO_is : IsEnc encO 3 := ⟨fun _ => rfl, fun x v hv => by simp [encO] at hv; rcases hv with rfl | rfl | rfl <;> rfl, by decide⟩
abbrev mkSt (kind table : Int) (r : RowM) : Value := .agg #[.int .u8 kind, .int .i64 table, .int .i64 r.key, .string r.text]

/-- Two rows: the same key, the same text. -/
def rowEq (a b : RowM) : Bool := a.key == b.key && (a.text.toList == b.text.toList && true)
theorem rowEq_self (a : RowM) : rowEq a a = true := by simp [rowEq]
theorem row_neq (a b : RowM) (x y : Operand) (w : World) : (binRun .neq 55 x y (mkR a) (mkR b)).run Tryz.prog w = .ok (.bool (!rowEq a b)) w :=
  (run_eq_struct (r := rowEq a b) tabOk (ts := [55]) (fun t ht => by simp at ht; subst ht; kernel_rfl) (by kernel_rfl) rfl x y w).2

/-- What a statement of kind 'k' has done, of a row, and of the rows that it told. -/
def opsOf (k : Int) (r : RowM) (rows : List RowM) : List OpM :=
  if k = 1 ∨ k = 2 then [⟨false, r⟩] else if k = 3 then [⟨true, r⟩] else if k = 4 then rows.map fun x => ⟨true, x⟩ else []
def opQ (T : TypeId) (xs : List OpM) : Value → List Res → Prop := fun v Rs => ∃ A c, v = .slice A xs.length c ∧ Rs = [own encO 3 T A c xs]

theorem kind_cases (k : Int) : k = 1 ∨ k = 2 ∨ k = 3 ∨ k = 4 ∨ (k ≠ 1 ∧ k ≠ 2 ∧ k ≠ 3 ∧ k ≠ 4) := by omega

set_option maxHeartbeats 2000000 in
theorem rel_ops (k table : Int) (r : RowM) (A : Option Addr) (c : Nat) (rows : List RowM) (w0 : World) (hA : RdW w0 A (rows.flatMap encR)) (hn : rows.length ≤ 1000000) :
    Calls Tryz.prog 19 #[mkSt k table r, .slice A rows.length c] w0 fun e w' => ∃ v Rs', e = .returned v ∧ opQ 72 (opsOf k r rows) v Rs' ∧ Mod [heapOf w0] Rs' w' ∧ Oth w0 w' := by
  refine enterN (tab := tab) Tryz.func19 rfl Tryz.ntmps19 rfl (args := [_, _]) rfl (Mod.start w0) ?_
  refine Go_res _ (fun w h => h.own_nil (enc := encO) (k := 3) (T := 72) none) ?_
  refine VC_sound tabOk 100 ?_
  intro b2 _
  (repeat (first | refine Or.inl ⟨rfl, rfl, ?_⟩ | refine Or.inl ⟨rfl, ?_⟩ | refine Or.inr ?_))
  rcases kind_cases k with rfl | rfl | rfl | rfl | ⟨h1, h2, h3, h4⟩
  · refine ⟨fun _ => ?_, fun h => by simp at h⟩
    (repeat (first | refine Or.inl ⟨rfl, rfl, ?_⟩ | refine Or.inl ⟨rfl, ?_⟩ | refine Or.inr ?_))
    intro b7 _
    show Go _ _ _ _
    refine Go_ops rfl (OpTo_append tabOk encO_is (ys := [⟨false, r⟩]) (i := 2) rfl rfl rfl rfl rfl rfl rfl rfl rfl rfl rfl (fun w hm _ => hm.blk_rd (i := 0) rfl) (by simp) (by simp) (fun A2 c2 => ?_))
    refine VC_sound tabOk 100 ?_
    exact Some_.sel [2] rfl ⟨A2, c2, rfl, rfl⟩
  · refine ⟨fun h => by simp at h, fun _ => ?_⟩
    refine ⟨fun _ => ?_, fun h => by simp at h⟩
    (repeat (first | refine Or.inl ⟨rfl, rfl, ?_⟩ | refine Or.inl ⟨rfl, ?_⟩ | refine Or.inr ?_))
    intro b7 _
    show Go _ _ _ _
    refine Go_ops rfl (OpTo_append tabOk encO_is (ys := [⟨false, r⟩]) (i := 2) rfl rfl rfl rfl rfl rfl rfl rfl rfl rfl rfl (fun w hm _ => hm.blk_rd (i := 0) rfl) (by simp) (by simp) (fun A2 c2 => ?_))
    refine VC_sound tabOk 100 ?_
    exact Some_.sel [2] rfl ⟨A2, c2, rfl, rfl⟩
  · refine ⟨fun h => by simp at h, fun _ => ?_⟩
    refine ⟨fun h => by simp at h, fun _ => ?_⟩
    refine ⟨fun _ => ?_, fun h => by simp at h⟩
    (repeat (first | refine Or.inl ⟨rfl, rfl, ?_⟩ | refine Or.inl ⟨rfl, ?_⟩ | refine Or.inr ?_))
    intro b7 _
    show Go _ _ _ _
    refine Go_ops rfl (OpTo_append tabOk encO_is (ys := [⟨true, r⟩]) (i := 2) rfl rfl rfl rfl rfl rfl rfl rfl rfl rfl rfl (fun w hm _ => hm.blk_rd (i := 0) rfl) (by simp) (by simp) (fun A2 c2 => ?_))
    refine VC_sound tabOk 100 ?_
    exact Some_.sel [2] rfl ⟨A2, c2, rfl, rfl⟩
  · refine ⟨fun h => by simp at h, fun _ => ?_⟩
    refine ⟨fun h => by simp at h, fun _ => ?_⟩
    refine ⟨fun h => by simp at h, fun _ => ?_⟩
    refine ⟨fun _ => ?_, fun h => by simp at h⟩
    refine Go_loop (σ := Option Addr × Nat × Nat) (fun s => [(29, .v (.slice A rows.length c)), (30, .v (.int .i64 rows.length)), (31, .v (.int .i64 s.2.2)), (5, .v (.slice s.1 s.2.2 s.2.1))]) (fun s => [own encO 3 72 s.1 s.2.1 ((rows.take s.2.2).map fun x => ⟨true, x⟩)])
      (fun s => s.2.2 ≤ rows.length) (fun s => rows.length - s.2.2) (none, 0, 0) (by simp) ⟨rfl, rfl, rfl, rfl, trivial⟩ (fun w h => h.sel [1] rfl) ?_
    rintro ⟨A1, c1, i⟩ hi
    dsimp only at hi ⊢
    refine VC_sound tabOk 100 ?_
    refine ⟨fun hb => ?_, fun hb => ?_⟩
    · have hlt : i < rows.length := by simp at hb; omega
      obtain ⟨b, o, rfl⟩ := RdW.some encR_is hA (ne_nil_of_lt (by omega : 0 < rows.length))
      refine ⟨⟨by omega, by omega⟩, ?_⟩
      refine Go_ops rfl (OpTo_loadRow tabOk encR_is (mkR rows[i]) rfl rfl rfl rfl rfl (fun h => by cases h) (fun w hm _ => hA.mod hm) (List.getElem?_eq_getElem hlt) (by simp only [addA]; rfl) ?_)
      refine VC_sound tabOk 100 ?_
      intro b7 _
      (repeat (first | refine Or.inl ⟨rfl, rfl, ?_⟩ | refine Or.inl ⟨rfl, ?_⟩ | refine Or.inr ?_))
      intro b38 _
      show Go _ _ _ _
      refine Go_ops rfl (OpTo_append tabOk encO_is (ys := [⟨true, rows[i]⟩]) (i := 2) rfl rfl rfl rfl rfl rfl rfl rfl rfl (by simp; omega) rfl (fun w hm _ => hm.blk_rd (i := 0) rfl) (by simp; omega) (by simp; omega) (fun A2 c2 => ?_))
      refine VC_sound tabOk 100 ?_
      refine ⟨_, wrap_i64 (n := (i : Int) + 1) (by omega) (by omega), ?_⟩
      refine Go_fin (A2, c2, i + 1) (by simp; omega) (by simp; omega) ⟨rfl, rfl, rfl, rfl, trivial⟩ (fun _ h => ?_)
      have h := h.sel [2] rfl
      have e : ((rows.take (i + 1)).map fun x => (⟨true, x⟩ : OpM)) = ((rows.take i).map fun x => ⟨true, x⟩) ++ [⟨true, rows[i]⟩] := by
        rw [List.take_succ_eq_append_getElem hlt, List.map_append]; rfl
      dsimp only
      rw [e]
      exact h
    · have he : i = rows.length := by simp at hb; omega
      subst he
      have e : opsOf 4 r rows = (rows.take rows.length).map fun x => ⟨true, x⟩ := by simp [opsOf]
      rw [e]
      exact Some_.sel [0] rfl ⟨A1, c1, by simp; rfl, rfl⟩
  · refine ⟨fun h => absurd (by simpa using h) h1, fun _ => ?_⟩
    refine ⟨fun h => absurd (by simpa using h) h2, fun _ => ?_⟩
    refine ⟨fun h => absurd (by simpa using h) h3, fun _ => ?_⟩
    refine ⟨fun h => absurd (by simpa using h) h4, fun _ => ?_⟩
    have e : opsOf k r rows = [] := by simp [opsOf, h1, h2, h3, h4]
    rw [e]
    exact Some_.sel [1] rfl ⟨none, 0, rfl, rfl⟩

theorem kind_cases2 (k : Int) : k = 1 ∨ k = 2 ∨ k = 3 ∨ k = 4 ∨ k < 1 ∨ 4 < k := by omega

set_option maxHeartbeats 4000000 in
theorem ref_ops (k table : Int) (r : RowM) (A : Option Addr) (c : Nat) (rows : List RowM) (w0 : World) (hA : RdW w0 A (rows.flatMap encR)) (hn : rows.length ≤ 1000000) :
    Calls Tryz.prog 20 #[mkSt k table r, .slice A rows.length c] w0 fun e w' => ∃ v Rs', e = .returned v ∧ opQ 101 (opsOf k r rows) v Rs' ∧ Mod [heapOf w0] Rs' w' ∧ Oth w0 w' := by
  refine enterN (tab := tab) Tryz.func20 rfl Tryz.ntmps20 rfl (args := [_, _]) rfl (Mod.start w0) ?_
  refine Go_res _ (fun w h => h.own_nil (enc := encO) (k := 3) (T := 101) none) ?_
  refine VC_sound tabOk 100 ?_
  intro b2 _
  (repeat (first | refine Or.inl ⟨rfl, rfl, ?_⟩ | refine Or.inl ⟨rfl, ?_⟩ | refine Or.inr ?_))
  rcases kind_cases2 k with rfl | rfl | rfl | rfl | h1 | h4
  · refine ⟨fun _ => ?_, fun h => by simp at h⟩
    (repeat (first | refine Or.inl ⟨rfl, rfl, ?_⟩ | refine Or.inl ⟨rfl, ?_⟩ | refine Or.inr ?_))
    refine ⟨fun _ => ?_, fun h => by simp at h⟩
    (repeat (first | refine Or.inl ⟨rfl, rfl, ?_⟩ | refine Or.inl ⟨rfl, ?_⟩ | refine Or.inr ?_))
    intro b7 _
    show Go _ _ _ _
    refine Go_ops rfl (OpTo_append tabOk encO_is (ys := [⟨decide ((1 : Int) = 3), r⟩]) (i := 2) rfl rfl rfl rfl rfl rfl rfl rfl rfl rfl rfl (fun w hm _ => hm.blk_rd (i := 0) rfl) (by simp) (by simp) (fun A2 c2 => ?_))
    refine VC_sound tabOk 100 ?_
    refine Go_loop (σ := Unit) (fun _ => [(0, .v (mkSt 1 table r)), (2, .v (.pointer (some ⟨b2, 0, none⟩))), (5, .v (.slice A2 1 c2)), (6, .v (.int .i64 0))]) (fun _ => [.blk b2 57 [.int .u8 1, .int .i64 table, .int .i64 r.key, .string r.text], own encO 3 101 A2 c2 [⟨decide ((1 : Int) = 3), r⟩]]) (fun _ => True) (fun _ => 0) () trivial ⟨rfl, rfl, rfl, rfl, trivial⟩ (fun w h => h.sel [1, 2] rfl) ?_
    rintro ⟨⟩ _
    refine VC_sound tabOk 100 ?_
    (repeat (first | refine Or.inl ⟨rfl, rfl, ?_⟩ | refine Or.inl ⟨rfl, ?_⟩ | refine Or.inr ?_))
    refine ⟨fun h => by simp at h, fun _ => ?_⟩
    exact Some_.sel [1] rfl ⟨A2, c2, rfl, rfl⟩
  · refine ⟨fun _ => ?_, fun h => by simp at h⟩
    (repeat (first | refine Or.inl ⟨rfl, rfl, ?_⟩ | refine Or.inl ⟨rfl, ?_⟩ | refine Or.inr ?_))
    refine ⟨fun _ => ?_, fun h => by simp at h⟩
    (repeat (first | refine Or.inl ⟨rfl, rfl, ?_⟩ | refine Or.inl ⟨rfl, ?_⟩ | refine Or.inr ?_))
    intro b7 _
    show Go _ _ _ _
    refine Go_ops rfl (OpTo_append tabOk encO_is (ys := [⟨decide ((2 : Int) = 3), r⟩]) (i := 2) rfl rfl rfl rfl rfl rfl rfl rfl rfl rfl rfl (fun w hm _ => hm.blk_rd (i := 0) rfl) (by simp) (by simp) (fun A2 c2 => ?_))
    refine VC_sound tabOk 100 ?_
    refine Go_loop (σ := Unit) (fun _ => [(0, .v (mkSt 2 table r)), (2, .v (.pointer (some ⟨b2, 0, none⟩))), (5, .v (.slice A2 1 c2)), (6, .v (.int .i64 0))]) (fun _ => [.blk b2 57 [.int .u8 2, .int .i64 table, .int .i64 r.key, .string r.text], own encO 3 101 A2 c2 [⟨decide ((2 : Int) = 3), r⟩]]) (fun _ => True) (fun _ => 0) () trivial ⟨rfl, rfl, rfl, rfl, trivial⟩ (fun w h => h.sel [1, 2] rfl) ?_
    rintro ⟨⟩ _
    refine VC_sound tabOk 100 ?_
    (repeat (first | refine Or.inl ⟨rfl, rfl, ?_⟩ | refine Or.inl ⟨rfl, ?_⟩ | refine Or.inr ?_))
    refine ⟨fun h => by simp at h, fun _ => ?_⟩
    exact Some_.sel [1] rfl ⟨A2, c2, rfl, rfl⟩
  · refine ⟨fun _ => ?_, fun h => by simp at h⟩
    (repeat (first | refine Or.inl ⟨rfl, rfl, ?_⟩ | refine Or.inl ⟨rfl, ?_⟩ | refine Or.inr ?_))
    refine ⟨fun _ => ?_, fun h => by simp at h⟩
    (repeat (first | refine Or.inl ⟨rfl, rfl, ?_⟩ | refine Or.inl ⟨rfl, ?_⟩ | refine Or.inr ?_))
    intro b7 _
    show Go _ _ _ _
    refine Go_ops rfl (OpTo_append tabOk encO_is (ys := [⟨decide ((3 : Int) = 3), r⟩]) (i := 2) rfl rfl rfl rfl rfl rfl rfl rfl rfl rfl rfl (fun w hm _ => hm.blk_rd (i := 0) rfl) (by simp) (by simp) (fun A2 c2 => ?_))
    refine VC_sound tabOk 100 ?_
    refine Go_loop (σ := Unit) (fun _ => [(0, .v (mkSt 3 table r)), (2, .v (.pointer (some ⟨b2, 0, none⟩))), (5, .v (.slice A2 1 c2)), (6, .v (.int .i64 0))]) (fun _ => [.blk b2 57 [.int .u8 3, .int .i64 table, .int .i64 r.key, .string r.text], own encO 3 101 A2 c2 [⟨decide ((3 : Int) = 3), r⟩]]) (fun _ => True) (fun _ => 0) () trivial ⟨rfl, rfl, rfl, rfl, trivial⟩ (fun w h => h.sel [1, 2] rfl) ?_
    rintro ⟨⟩ _
    refine VC_sound tabOk 100 ?_
    (repeat (first | refine Or.inl ⟨rfl, rfl, ?_⟩ | refine Or.inl ⟨rfl, ?_⟩ | refine Or.inr ?_))
    refine ⟨fun h => by simp at h, fun _ => ?_⟩
    exact Some_.sel [1] rfl ⟨A2, c2, rfl, rfl⟩
  · refine ⟨fun _ => ?_, fun h => by simp at h⟩
    (repeat (first | refine Or.inl ⟨rfl, rfl, ?_⟩ | refine Or.inl ⟨rfl, ?_⟩ | refine Or.inr ?_))
    refine ⟨fun h => by simp at h, fun _ => ?_⟩
    refine Go_loop (σ := Option Addr × Nat × Nat) (fun s => [(1, .v (.slice A rows.length c)), (2, .v (.pointer (some ⟨b2, 0, none⟩))), (6, .v (.int .i64 s.2.2)), (5, .v (.slice s.1 s.2.2 s.2.1))]) (fun s => [.blk b2 57 [.int .u8 4, .int .i64 table, .int .i64 r.key, .string r.text], own encO 3 101 s.1 s.2.1 ((rows.take s.2.2).map fun x => ⟨true, x⟩)])
      (fun s => s.2.2 ≤ rows.length) (fun s => rows.length - s.2.2) (none, 0, 0) (by simp) ⟨rfl, rfl, rfl, rfl, trivial⟩ (fun w h => h.sel [0, 1] rfl) ?_
    rintro ⟨A1, c1, i⟩ hi
    dsimp only at hi ⊢
    refine VC_sound tabOk 100 ?_
    (repeat (first | refine Or.inl ⟨rfl, rfl, ?_⟩ | refine Or.inl ⟨rfl, ?_⟩ | refine Or.inr ?_))
    refine ⟨fun _ => ?_, fun h => by simp at h⟩
    refine ⟨fun hb => ?_, fun hb => ?_⟩
    · have hlt : i < rows.length := by simp at hb; omega
      obtain ⟨b, o, rfl⟩ := RdW.some encR_is hA (ne_nil_of_lt (by omega : 0 < rows.length))
      refine ⟨⟨by omega, by omega⟩, ?_⟩
      (repeat (first | refine Or.inl ⟨rfl, rfl, ?_⟩ | refine Or.inl ⟨rfl, ?_⟩ | refine Or.inr ?_))
      refine Go_ops rfl (OpTo_loadRow tabOk encR_is (mkR rows[i]) rfl rfl rfl rfl rfl (fun h => by cases h) (fun w hm _ => hA.mod hm) (List.getElem?_eq_getElem hlt) (by simp only [addA]; rfl) ?_)
      refine VC_sound tabOk 100 ?_
      intro b38 _
      show Go _ _ _ _
      refine Go_ops rfl (OpTo_append tabOk encO_is (ys := [⟨true, rows[i]⟩]) (i := 2) rfl rfl rfl rfl rfl rfl rfl rfl rfl (by simp; omega) rfl (fun w hm _ => hm.blk_rd (i := 0) rfl) (by simp; omega) (by simp; omega) (fun A2 c2 => ?_))
      refine VC_sound tabOk 100 ?_
      refine ⟨_, wrap_i64 (n := (i : Int) + 1) (by omega) (by omega), ?_⟩
      refine Go_fin (A2, c2, i + 1) (by simp; omega) (by simp; omega) ⟨rfl, rfl, rfl, rfl, trivial⟩ (fun _ h => ?_)
      have h := h.sel [1, 2] rfl
      have e : ((rows.take (i + 1)).map fun x => (⟨true, x⟩ : OpM)) = ((rows.take i).map fun x => ⟨true, x⟩) ++ [⟨true, rows[i]⟩] := by
        rw [List.take_succ_eq_append_getElem hlt, List.map_append]; rfl
      dsimp only
      rw [e]
      exact h
    · have he : i = rows.length := by simp at hb; omega
      subst he
      have e : opsOf 4 r rows = (rows.take rows.length).map fun x => ⟨true, x⟩ := by simp [opsOf]
      rw [e]
      exact Some_.sel [1] rfl ⟨A1, c1, by simp; rfl, rfl⟩
  · have e : opsOf k r rows = [] := by unfold opsOf; rw [if_neg (by omega), if_neg (by omega), if_neg (by omega)]
    rw [e]
    refine ⟨fun h => by simp at h; omega, fun _ => ?_⟩
    refine Go_loop (σ := Unit) (fun _ => [(2, .v (.pointer (some ⟨b2, 0, none⟩))), (5, .v (.slice none 0 0)), (6, .v (.int .i64 0))]) (fun _ => [.blk b2 57 [.int .u8 k, .int .i64 table, .int .i64 r.key, .string r.text], own encO 3 101 none 0 []]) (fun _ => True) (fun _ => 0) () trivial ⟨rfl, rfl, rfl, trivial⟩ (fun w h => h.sel [0, 1] rfl) ?_
    rintro ⟨⟩ _
    refine VC_sound tabOk 100 ?_
    (repeat (first | refine Or.inl ⟨rfl, rfl, ?_⟩ | refine Or.inl ⟨rfl, ?_⟩ | refine Or.inr ?_))
    refine ⟨fun h => by simp at h; omega, fun _ => ?_⟩
    exact Some_.sel [1] rfl ⟨none, 0, rfl, rfl⟩
  · have e : opsOf k r rows = [] := by unfold opsOf; rw [if_neg (by omega), if_neg (by omega), if_neg (by omega)]
    rw [e]
    refine ⟨fun _ => ?_, fun h => by simp at h; omega⟩
    (repeat (first | refine Or.inl ⟨rfl, rfl, ?_⟩ | refine Or.inl ⟨rfl, ?_⟩ | refine Or.inr ?_))
    refine ⟨fun h => by simp at h; omega, fun _ => ?_⟩
    refine Go_loop (σ := Unit) (fun _ => [(2, .v (.pointer (some ⟨b2, 0, none⟩))), (5, .v (.slice none 0 0)), (6, .v (.int .i64 0))]) (fun _ => [.blk b2 57 [.int .u8 k, .int .i64 table, .int .i64 r.key, .string r.text], own encO 3 101 none 0 []]) (fun _ => True) (fun _ => 0) () trivial ⟨rfl, rfl, rfl, trivial⟩ (fun w h => h.sel [0, 1] rfl) ?_
    rintro ⟨⟩ _
    refine VC_sound tabOk 100 ?_
    (repeat (first | refine Or.inl ⟨rfl, rfl, ?_⟩ | refine Or.inl ⟨rfl, ?_⟩ | refine Or.inr ?_))
    refine ⟨fun h => by simp at h; omega, fun _ => ?_⟩
    exact Some_.sel [1] rfl ⟨none, 0, rfl, rfl⟩
end Go.Proofs.YtbhlkninmbafcaaGreat
