/- What the rest of package spool does. -/
import Derived.Test.YthpcahgdobnljaaGreatSpool
import Derived.Test.YthpcahgdobnljaaGreatStabE
import Derived.Test.YthpcahgdobnljaaGreatRxB
set_option maxRecDepth 100000
set_option autoImplicit false
set_option linter.unusedVariables false
set_option linter.unusedSimpArgs false
namespace Go.Proofs.YthpcahgdobnljaaGreat.Sp
open Go.RX Go Go.RowKit



/-- What cmp.Compare answers. -/
def cmpI (x y : Int) : Int := if ltI x y = true then -1 else if ltI y x = true then 1 else 0
theorem cmpI_lt (x y : Int) : decide (cmpI x y < 0) = ltI x y := by
  by_cases h : ltI x y = true
  · simp [cmpI, h]
  · by_cases h2 : ltI y x = true
    · simp [cmpI, h, h2]
    · simp [cmpI, h, h2]
theorem cmp_nan_I (x : Int) (w0 : World) : Calls Tryz.prog 150 #[Value.int .i64 x] w0 fun e w' => e = .returned (.bool false) ∧ BelowD w0.heap.size w0 w' := by
  refine enterP (tab := tab) Tryz.func150 rfl Tryz.ntmps150 rfl (args := [_]) rfl ?_
  refine VC_sound tabOk 100 ?_
  exact congrArg Value.bool (by simp)
theorem cmp_compare_I (x y : Int) (w0 : World) : Calls Tryz.prog 95 #[Value.int .i64 x, Value.int .i64 y] w0 fun e w' => e = .returned (.int .i64 (cmpI x y)) ∧ BelowD w0.heap.size w0 w' := by
  refine enterP (tab := tab) Tryz.func95 rfl Tryz.ntmps95 rfl (args := [_, _]) rfl ?_
  refine VC_sound tabOk 100 ?_
  refine Go_ops rfl (OpTo_pcall (v := .bool false) rfl rfl rfl rfl rfl (by kernel_rfl) (fun w hm _ => cmp_nan_I x w) ?_)
  refine VC_sound tabOk 100 ?_
  refine Go_ops rfl (OpTo_pcall (v := .bool false) rfl rfl rfl rfl rfl (by kernel_rfl) (fun w hm _ => cmp_nan_I y w) ?_)
  refine VC_sound tabOk 100 ?_
  refine ⟨fun h => by simp at h, fun _ => ?_⟩
  refine ⟨fun h => by simp at h, fun _ => ?_⟩
  refine ⟨fun h => ?_, fun h => ?_⟩
  · exact congrArg (Value.int .i64) (if_pos (by simpa [ltI] using h)).symm
  · refine ⟨fun h2 => ?_, fun h2 => ?_⟩
    · exact congrArg (Value.int .i64) (by rw [cmpI, if_neg (by simpa [ltI] using h), if_pos (by simpa [ltI] using h2)])
    · exact congrArg (Value.int .i64) (by rw [cmpI, if_neg (by simpa [ltI] using h), if_neg (by simpa [ltI] using h2)])


def rowEQ (xs : List EventM) : Value → List Res → Prop := fun v Rs => ∃ A c, v = .slice A xs.length c ∧ Rs = [own encE 8 65 A c xs]
set_option maxHeartbeats 400000 in
theorem sl_clone_E (A : Option Addr) (c : Nat) (xs : List EventM) (w0 : World) (hA : RdW w0 A (xs.flatMap encE)) (hn : xs.length ≤ 1000000) :
    Calls Tryz.prog 190 #[.slice A xs.length c] w0 fun e w' => ∃ v Rs', e = .returned v ∧ rowEQ xs v Rs' ∧ Mod [heapOf w0] Rs' w' ∧ Oth w0 w' := by
  refine enterN (tab := tab) Tryz.func190 rfl Tryz.ntmps190 rfl (args := [_]) rfl (Mod.start w0) ?_
  refine VC_sound tabOk 100 ?_
  refine ⟨fun h => ?_, fun h => ?_⟩
  · have hnil : xs = [] := by
      rcases hA with h1 | ⟨b, o, h1, _⟩
      · exact (encE_is).flat_nil h1
      · rw [h1] at h; cases h
    subst hnil
    exact ⟨_, ⟨none, 0, rfl, rfl⟩, fun _ _ hm => hm.own_nil none⟩
  · intro b1 _
    refine Go_res [own encE 8 65 (some ⟨b1, 0, none⟩) 0 []] (fun w h => h.own_blk (i := 0) (xs := []) rfl rfl (by simp)) ?_
    show Go _ _ _ _
    refine Go_ops rfl (OpTo_append tabOk encE_is (ys := xs) (i := 0) rfl rfl rfl rfl rfl rfl rfl rfl rfl rfl rfl (fun w hm _ => hA.mod hm) (by simp; omega) (by simp; omega) (fun A2 c2 => ?_))
    refine VC_sound tabOk 100 ?_
    exact ⟨_, ⟨A2, c2, by simp; rfl, rfl⟩, fun _ _ hm => hm⟩

set_option maxHeartbeats 400000 in
theorem sl_grow_E (n : Nat) (w0 : World) (hn : n ≤ 1000000) :
    Calls Tryz.prog 148 #[.slice none 0 0, .int .i64 n] w0 fun e w' => ∃ v Rs', e = .returned v ∧ (∃ A c, v = .slice A 0 c ∧ Rs' = [own encE 8 65 A c []]) ∧ Mod [heapOf w0] Rs' w' ∧ Oth w0 w' := by
  refine enterN (tab := tab) Tryz.func148 rfl Tryz.ntmps148 rfl (args := [_, _]) rfl (Mod.start w0) ?_
  refine VC_sound tabOk 100 ?_
  refine ⟨fun h => by simp at h; omega, fun _ => ?_⟩
  refine Go_ops rfl (OpTo_cap tabOk rfl rfl rfl ?_)
  refine VC_sound tabOk 100 ?_
  refine ⟨_, wrap_i64 (n := ((0 : Nat) : Int) - 0) (by omega) (by omega), ?_⟩
  refine ⟨_, wrap_i64 (n := (n : Int) - (((0 : Nat) : Int) - 0)) (by omega) (by omega), ?_⟩
  rw [show (n : Int) - (((0 : Nat) : Int) - 0) = n from by omega]
  refine ⟨fun h => ?_, fun h => ?_⟩
  · have h0 : 0 < n := by simpa using h
    refine Go_ops rfl (OpTo_cap tabOk rfl rfl rfl ?_)
    refine VC_sound tabOk 100 ?_
    refine ⟨⟨by omega, by omega⟩, ?_⟩
    refine Go_ops rfl (OpTo_grow tabOk encE_is (n := n) zeroE rfl rfl rfl rfl rfl rfl rfl rfl h0 (by simp; omega) (by omega) (fun b c => ?_))
    refine VC_sound tabOk 100 ?_
    refine ⟨⟨by omega, by omega⟩, ?_⟩
    refine ⟨_, ⟨some ⟨b, 0, none⟩, c, rfl, rfl⟩, fun _ _ hm => ?_⟩
    have := hm.own_take (i := 0) (n := 0) encE_is (Nat.zero_le _) rfl
    simpa using this
  · exact ⟨_, ⟨none, 0, rfl, rfl⟩, fun _ _ hm => hm.own_nil none⟩


def pre3 (a b c : Tb) : Nat → List EventM
  | 0 => []
  | 1 => a.xs
  | 2 => a.xs ++ b.xs
  | _ => a.xs ++ b.xs ++ c.xs
theorem pre3_succ (a b c : Tb) (i : Nat) (h : i < 3) : pre3 a b c (i + 1) = pre3 a b c i ++ (pick3 a b c i).xs := by
  have : i = 0 ∨ i = 1 ∨ i = 2 := by omega
  rcases this with rfl | rfl | rfl <;> simp [pre3, pick3]

set_option maxHeartbeats 2000000 in
theorem sl_concat (bs : Nat) (a b c : Tb) (cur : Nat) (w0 : World) (hb : w0.heap[bs]? = some (.cells #[a.v, b.v, c.v, .int .i64 cur] 146 (0, 0)))
    (ha : ∀ i, RdW w0 (pick3 a b c i).A ((pick3 a b c i).xs.flatMap encE)) (hl : (pre3 a b c 3).length ≤ 10000) :
    Calls Tryz.prog 92 #[.slice (some ⟨bs, 0, none⟩) 3 3] w0 fun e w' => ∃ v Rs', e = .returned v ∧ (∃ A' c', v = .slice A' (pre3 a b c 3).length c' ∧ Rs' = [own encE 8 65 A' c' (pre3 a b c 3)]) ∧ Mod [heapOf w0] Rs' w' ∧ Oth w0 w' := by
  have hbd : ∀ i, i < 3 → (pre3 a b c i).length + (pick3 a b c i).xs.length = (pre3 a b c (i + 1)).length := fun i hi => by rw [pre3_succ a b c i hi]; simp
  have hup : ∀ i, i ≤ 3 → (pre3 a b c i).length ≤ 10000 := fun i hi => by
    have e0 := hbd 0 (by omega); have e1 := hbd 1 (by omega); have e2 := hbd 2 (by omega)
    simp only [Nat.zero_add, Nat.reduceAdd] at e0 e1 e2
    have : i = 0 ∨ i = 1 ∨ i = 2 ∨ i = 3 := by omega
    rcases this with rfl | rfl | rfl | rfl <;> omega
  refine enterN (tab := tab) Tryz.func92 rfl Tryz.ntmps92 rfl (args := [_]) rfl (Mod.start w0) ?_
  refine VC_sound tabOk 100 ?_
  refine Go_loop (σ := Nat) (fun i => [(0, .v (.slice (some ⟨bs, 0, none⟩) 3 3)), (3, .v (.int .i64 (pre3 a b c i).length)), (9, .v (.slice (some ⟨bs, 0, none⟩) 3 3)), (10, .v (.int .i64 (3 : Nat))), (11, .v (.int .i64 i))]) (fun _ => []) (fun i => i ≤ 3) (fun i => 3 - i) 0 (by omega) ⟨rfl, rfl, rfl, rfl, rfl, trivial⟩ (fun _ h => h) ?_
  intro i hi
  dsimp only at hi ⊢
  refine VC_sound tabOk 100 ?_
  refine ⟨fun hc => ?_, fun hc => ?_⟩
  · have hlt : i < 3 := by simp at hc; omega
    have e1 := hbd i hlt
    have e2 := hup (i + 1) (by omega)
    refine ⟨⟨by omega, by omega⟩, ?_⟩
    have hld : ∀ (ti : TyI), tlook tab 72 = some ti → partL ti [a.v, b.v, c.v, .int .i64 cur] (0 + ((i : Int).toNat * 1)) = some (pick3 a b c i).v := by
      intro ti hti
      have : ti = (tlook tab 72).get rfl := by rw [Option.eq_some_iff_get_eq.1 hti |>.2]
      subst this
      have : i = 0 ∨ i = 1 ∨ i = 2 := by omega
      rcases this with rfl | rfl | rfl <;> rfl
    refine Go_ops rfl (OpTo_loadBlk tabOk (cs := [a.v, b.v, c.v, .int .i64 cur]) (pick3 a b c i).v rfl rfl rfl (fun w hm _ => hm.block_old hb) (hld _ rfl) ?_)
    refine VC_sound tabOk 100 ?_
    refine ⟨_, wrap_i64 (n := ((pre3 a b c i).length : Int) + ((pick3 a b c i).xs.length : Int)) (by omega) (by omega), ?_⟩
    refine ⟨fun h => by simp at h; omega, fun _ => ?_⟩
    refine ⟨_, wrap_i64 (n := (i : Int) + 1) (by omega) (by omega), ?_⟩
    exact Go_fin (i + 1) (by omega) (by omega) ⟨rfl, congrArg (Value.int .i64) (by omega), rfl, rfl, rfl, trivial⟩ (fun _ h => h)
  have he : i = 3 := by simp at hc; omega
  subst he
  show Go _ _ _ _
  refine Go_ops rfl (OpTo_ncall rfl rfl rfl rfl rfl (by kernel_rfl) (fun w hm _ => sl_grow_E (pre3 a b c 3).length w (by omega)) ?_)
  rintro _ _ ⟨A1, c1, rfl, rfl⟩
  refine VC_sound tabOk 100 ?_
  refine Go_loop (σ := Nat × Option Addr × Nat) (fun s => [(6, .v (.slice s.2.1 (pre3 a b c s.1).length s.2.2)), (25, .v (.slice (some ⟨bs, 0, none⟩) 3 3)), (26, .v (.int .i64 (3 : Nat))), (27, .v (.int .i64 s.1))]) (fun s => [own encE 8 65 s.2.1 s.2.2 (pre3 a b c s.1)]) (fun s => s.1 ≤ 3) (fun s => 3 - s.1) (0, A1, c1) (by simp) ⟨rfl, rfl, rfl, rfl, trivial⟩ (fun _ h => h) ?_
  clear hc hi
  rintro ⟨i, A2, c2⟩ hi
  dsimp only at hi ⊢
  refine VC_sound tabOk 100 ?_
  refine ⟨fun hc => ?_, fun hc => ?_⟩
  · have hlt : i < 3 := by simp at hc; omega
    have e1 := hbd i hlt
    have e2 := hup (i + 1) (by omega)
    refine ⟨⟨by omega, by omega⟩, ?_⟩
    have hld : ∀ (ti : TyI), tlook tab 72 = some ti → partL ti [a.v, b.v, c.v, .int .i64 cur] (0 + ((i : Int).toNat * 1)) = some (pick3 a b c i).v := by
      intro ti hti
      have : ti = (tlook tab 72).get rfl := by rw [Option.eq_some_iff_get_eq.1 hti |>.2]
      subst this
      have : i = 0 ∨ i = 1 ∨ i = 2 := by omega
      rcases this with rfl | rfl | rfl <;> rfl
    refine Go_ops rfl (OpTo_loadBlk tabOk (cs := [a.v, b.v, c.v, .int .i64 cur]) (pick3 a b c i).v rfl rfl rfl (fun w hm _ => hm.block_old hb) (hld _ rfl) ?_)
    refine VC_sound tabOk 100 ?_
    show Go _ _ _ _
    refine Go_ops rfl (OpTo_append tabOk encE_is (ys := (pick3 a b c i).xs) (i := 0) rfl rfl rfl rfl rfl rfl rfl rfl rfl rfl rfl (fun w hm _ => (ha i).mod hm) (by simp; omega) (by omega) (fun A3 c3 => ?_))
    refine VC_sound tabOk 100 ?_
    refine ⟨_, wrap_i64 (n := (i : Int) + 1) (by omega) (by omega), ?_⟩
    refine Go_fin (i + 1, A3, c3) (by dsimp only; omega) (by dsimp only; omega) ⟨?_, rfl, rfl, rfl, trivial⟩ (fun _ h => by dsimp only; rw [pre3_succ a b c i hlt]; exact h)
    dsimp only; rw [e1]
  · have he : i = 3 := by simp at hc; omega
    subst he
    exact ⟨_, ⟨A2, c2, rfl, rfl⟩, fun _ _ h => h⟩

abbrev evCmp : EventM → EventM → Int := fun a b => cmpI a.id b.id
theorem evCmp_ok : Cmps ltI EventM.id evCmp := fun a b => cmpI_lt a.id b.id
theorem spool_allC : AnsC Tryz.prog 94 #[] #[] mkE evCmp := fun a b w0 => by
  show Calls Tryz.prog 94 #[mkE a, mkE b] w0 _
  refine enterP (tab := tab) Tryz.func94 rfl Tryz.ntmps94 rfl (args := [_, _]) rfl ?_
  refine VC_sound tabOk 100 ?_
  intro b1 _
  intro b2 _
  (repeat (first | refine Or.inl ⟨rfl, rfl, ?_⟩ | refine Or.inl ⟨rfl, ?_⟩ | refine Or.inr ?_))
  refine Go_ops rfl (OpTo_pcall (v := .int .i64 (cmpI a.id b.id)) rfl rfl rfl rfl rfl (by kernel_rfl) (fun w hm _ => cmp_compare_I a.id b.id w) ?_)
  refine VC_sound tabOk 100 ?_
  rfl

theorem spool_list (bs : Nat) (a b c : Tb) (cur i : Nat) (w0 : World) (hb : w0.heap[bs]? = some (.cells #[a.v, b.v, c.v, .int .i64 cur] 146 (0, 0))) (ha : RdW w0 (pick3 a b c i).A ((pick3 a b c i).xs.flatMap encE)) (hi : i < 3) (hl : (pick3 a b c i).xs.length ≤ 10000) :
    Calls Tryz.prog 168 #[.pointer (some ⟨bs, 0, none⟩), .int .i64 i] w0 fun e w' => ∃ v Rs', e = .returned v ∧ rowEQ (pick3 a b c i).xs v Rs' ∧ Mod [heapOf w0] Rs' w' ∧ Oth w0 w' := by
  refine enterN (tab := tab) Tryz.func168 rfl Tryz.ntmps168 rfl (args := [_, _]) rfl (Mod.start w0) ?_
  refine VC_sound tabOk 100 ?_
  refine ⟨fun h => by simp at h; omega, fun _ => ?_⟩
  refine ⟨fun h => by simp at h; omega, fun _ => ?_⟩
  refine ⟨⟨by omega, by omega⟩, ?_⟩
  have hld : ∀ (ti : TyI), tlook tab 72 = some ti → partL ti [a.v, b.v, c.v, .int .i64 cur] (0 + 0 + ((i : Int).toNat * 1)) = some (pick3 a b c i).v := by
    intro ti hti
    have : ti = (tlook tab 72).get rfl := by rw [Option.eq_some_iff_get_eq.1 hti |>.2]
    subst this
    have : i = 0 ∨ i = 1 ∨ i = 2 := by omega
    rcases this with rfl | rfl | rfl <;> rfl
  refine Go_ops rfl (OpTo_loadBlk tabOk (cs := [a.v, b.v, c.v, .int .i64 cur]) (pick3 a b c i).v rfl rfl rfl (fun w hm _ => hm.block_old hb) (hld _ rfl) ?_)
  refine VC_sound tabOk 100 ?_
  show Go _ _ _ _
  refine Go_ops rfl (OpTo_ncall rfl rfl rfl rfl rfl (by kernel_rfl) (fun w hm _ => sl_clone_E (pick3 a b c i).A (pick3 a b c i).c (pick3 a b c i).xs w (ha.mod hm) (by omega)) ?_)
  rintro _ _ ⟨A1, c1, rfl, rfl⟩
  refine VC_sound tabOk 100 ?_
  exact ⟨_, ⟨A1, c1, rfl, rfl⟩, fun _ _ h => h⟩
theorem spool_list_out (bs : Nat) (i : Int) (w0 : World) (h : i < 0 ∨ 3 ≤ i) : Calls Tryz.prog 168 #[.pointer (some ⟨bs, 0, none⟩), .int .i64 i] w0 fun e w' => e = .returned (.slice none 0 0) ∧ BelowD w0.heap.size w0 w' := by
  refine enterP (tab := tab) Tryz.func168 rfl Tryz.ntmps168 rfl (args := [_, _]) rfl ?_
  refine VC_sound tabOk 100 ?_
  refine ⟨fun _ => ?_, fun h1 => ?_⟩
  · rfl
  · refine ⟨fun _ => ?_, fun h2 => by simp at h1 h2; omega⟩
    rfl

theorem spool_next (bs : Nat) (a b c : Tb) (cur : Nat) (w0 : World) (hb : w0.heap[bs]? = some (.cells #[a.v, b.v, c.v, .int .i64 cur] 146 (0, 0))) (ha : RdW w0 (pick3 a b c (nxt cur)).A ((pick3 a b c (nxt cur)).xs.flatMap encE)) (hi : cur < 3) (hl : (pick3 a b c (nxt cur)).xs.length ≤ 10000) :
    Calls Tryz.prog 108 #[.pointer (some ⟨bs, 0, none⟩)] w0 fun e w' => ∃ v Rs', e = .returned v ∧ rowEQ (pick3 a b c (nxt cur)).xs v Rs' ∧ Mod [heapOf w0] Rs' w' ∧ Oth w0 w' := by
  refine enterN (tab := tab) Tryz.func108 rfl Tryz.ntmps108 rfl (args := [_]) rfl (Mod.start w0) ?_
  refine VC_sound tabOk 100 ?_
  refine Go_ops rfl (OpTo_pcall (v := .int .i64 (nxt cur)) rfl rfl rfl rfl rfl (by kernel_rfl) (fun w hm _ => spool_after bs a b c cur w (hm.block_old hb) hi) ?_)
  refine VC_sound tabOk 100 ?_
  show Go _ _ _ _
  refine Go_ops rfl (OpTo_ncall rfl rfl rfl rfl rfl (by kernel_rfl) (fun w hm _ => spool_list bs a b c cur (nxt cur) w (hm.block_old hb) (ha.mod hm) (by simp only [nxt]; omega) hl) ?_)
  rintro _ _ ⟨A1, c1, rfl, rfl⟩
  refine VC_sound tabOk 100 ?_
  exact ⟨_, ⟨A1, c1, rfl, rfl⟩, fun _ _ h => h⟩

/-- The events by their numbers. -/
def Srt (xs ys : List EventM) : Prop := SameBy EventM.id xs ys ∧ Rise ltI EventM.id ys ∧ ys.length = xs.length
theorem spool_all (bs : Nat) (a b c : Tb) (cur : Nat) (w0 : World) (hb : w0.heap[bs]? = some (.cells #[a.v, b.v, c.v, .int .i64 cur] 146 (0, 0)))
    (ha : ∀ i, RdW w0 (pick3 a b c i).A ((pick3 a b c i).xs.flatMap encE)) (hl : (pre3 a b c 3).length ≤ 10000) :
    Calls Tryz.prog 33 #[.pointer (some ⟨bs, 0, none⟩)] w0 fun e w' => ∃ v Rs', e = .returned v ∧ (∃ ys, Srt (pre3 a b c 3) ys ∧ rowEQ ys v Rs') ∧ Mod [heapOf w0] Rs' w' ∧ Oth w0 w' := by
  refine enterN (tab := tab) Tryz.func33 rfl Tryz.ntmps33 rfl (args := [_]) rfl (Mod.start w0) ?_
  refine VC_sound tabOk 100 ?_
  show Go _ _ _ _
  refine Go_ops rfl (OpTo_ncall rfl rfl rfl rfl rfl (by kernel_rfl) (fun w hm _ => sl_concat bs a b c cur w (hm.block_old hb) (fun i => (ha i).mod hm) hl) ?_)
  rintro _ _ ⟨A1, c1, rfl, rfl⟩
  refine VC_sound tabOk 100 ?_
  show Go _ _ _ _
  refine Go_ops rfl (OpTo_mcall [own encE 8 65 A1 c1 (pre3 a b c 3)] [] (List.Perm.of_eq (by simp)) rfl rfl rfl rfl rfl (by kernel_rfl) (fun w hb hm hio hsp k => sl_sortStable_E ordI evCmp_ok 94 #[] #[] (by kernel_rfl) spool_allC A1 c1 (pre3 a b c 3) w _ k (by omega)) ?_)
  rintro _ _ ⟨rfl, ys, h1, h2, h3, rfl⟩
  refine VC_sound tabOk 100 ?_
  exact ⟨_, ⟨ys, ⟨h1, h2, h3⟩, A1, c1, by rw [h3]; rfl, rfl⟩, fun _ _ h => h⟩

/-! ### Forget -/
theorem spool_forC (b3 : Nat) (x : Int) (e : EventM) (w0 : World) (hb : w0.heap[b3]? = some (.cells #[.int .i64 x] 2 (0, 0))) :
    Calls Tryz.prog 143 #[mkE e, .pointer (some ⟨b3, 0, none⟩)] w0 fun r w' => r = .returned (.bool (decide (e.tx = x))) ∧ BelowD w0.heap.size w0 w' := by
  refine enterP (tab := tab) Tryz.func143 rfl Tryz.ntmps143 rfl (args := [_, _]) rfl ?_
  refine VC_sound tabOk 100 ?_
  intro b2 _
  (repeat (first | refine Or.inl ⟨rfl, rfl, ?_⟩ | refine Or.inl ⟨rfl, ?_⟩ | refine Or.inr ?_))
  refine Go_ops rfl (OpTo_loadBlk tabOk (cs := [.int .i64 x]) (.int .i64 x) rfl rfl rfl (fun w hm _ => hm.block_old hb) rfl ?_)
  refine VC_sound tabOk 100 ?_
  rfl

/-- One of the tables, without a transaction's. -/
def tf (x : Int) (t : Tb) : Tb := ⟨t.A, t.c, t.xs.filter fun e => !decide (e.tx = x)⟩
def tfTo (x : Int) (i k : Nat) (t : Tb) : Tb := if k < i then tf x t else t
def forT (x : Int) (i : Nat) (a b c : Tb) : List Res := [(tfTo x i 0 a).r, (tfTo x i 1 b).r, (tfTo x i 2 c).r]
set_option maxHeartbeats 4000000 in
theorem spool_forget (bs : Nat) (a b c : Tb) (cur : Nat) (x : Int) (w0 : World) (hfs : List PH) (hm : Mod hfs (spR bs a b c cur) w0) (h1 : a.xs.length ≤ 10000) (h2 : b.xs.length ≤ 10000) (h3 : c.xs.length ≤ 10000) :
    Calls Tryz.prog 88 #[.pointer (some ⟨bs, 0, none⟩), .int .i64 x] w0 fun e w' => ∃ v Rs', e = .returned v ∧ (v = .int .i64 ((a.xs.length + b.xs.length + c.xs.length : Nat) - ((tf x a).xs.length + (tf x b).xs.length + (tf x c).xs.length : Nat) : Int) ∧ Rs' = spR bs (tf x a) (tf x b) (tf x c) cur) ∧ Mod hfs Rs' w' ∧ Oth w0 w' := by
  have k1 : (tf x a).xs.length ≤ 10000 := Nat.le_trans (List.length_filter_le _ _) h1
  have k2 : (tf x b).xs.length ≤ 10000 := Nat.le_trans (List.length_filter_le _ _) h2
  have k3 : (tf x c).xs.length ≤ 10000 := Nat.le_trans (List.length_filter_le _ _) h3
  refine enterN (tab := tab) Tryz.func88 rfl Tryz.ntmps88 rfl (args := [_, _]) rfl hm ?_
  refine VC_sound tabOk 100 ?_
  intro b3 _
  (repeat (first | refine Or.inl ⟨rfl, rfl, ?_⟩ | refine Or.inl ⟨rfl, ?_⟩ | refine Or.inr ?_))
  refine Go_ops rfl (OpTo_pcall (v := .int .i64 ((a.xs.length + b.xs.length + c.xs.length : Nat) : Int)) rfl rfl rfl rfl rfl (by kernel_rfl) (fun w hm _ => spool_len bs a b c cur w (hm.blk_at (i := 1) rfl) (by omega) (by omega) (by omega)) ?_)
  refine VC_sound tabOk 100 ?_
  refine ⟨fun h => ?_, fun h => ?_⟩
  · have h0 : a.xs.length + b.xs.length + c.xs.length = 0 := by simp at h; omega
    have e1 : tf x a = a := by obtain ⟨A, c', xs⟩ := a; obtain rfl : xs = [] := List.length_eq_zero_iff.1 (by simpa using (by omega : (Tb.mk A c' xs).xs.length = 0)); rfl
    have e2 : tf x b = b := by obtain ⟨A, c', xs⟩ := b; obtain rfl : xs = [] := List.length_eq_zero_iff.1 (by simpa using (by omega : (Tb.mk A c' xs).xs.length = 0)); rfl
    have e3 : tf x c = c := by obtain ⟨A, c', xs⟩ := c; obtain rfl : xs = [] := List.length_eq_zero_iff.1 (by simpa using (by omega : (Tb.mk A c' xs).xs.length = 0)); rfl
    rw [e1, e2, e3]
    refine ⟨_, ⟨?_, rfl⟩, fun _ _ h => h.sel [1, 2, 3, 4] rfl⟩
    exact congrArg (Value.int .i64) (by omega)
  refine Go_loop (σ := Nat) (fun i => [(0, .v (.pointer (some ⟨bs, 0, none⟩))), (3, .v (.pointer (some ⟨b3, 0, none⟩))), (5, .v (.int .i64 ((a.xs.length + b.xs.length + c.xs.length : Nat) : Int))), (11, .v (.int .i64 i))]) (fun i => .blk b3 2 [.int .i64 x] :: spR bs (tfTo x i 0 a) (tfTo x i 1 b) (tfTo x i 2 c) cur) (fun i => i ≤ 3) (fun i => 3 - i) 0 (by omega) ⟨rfl, rfl, rfl, rfl, trivial⟩ (fun _ h => h) ?_
  intro i hi
  have hi' : i = 0 ∨ i = 1 ∨ i = 2 ∨ i = 3 := by omega
  rcases hi' with rfl | rfl | rfl | rfl
  · refine VC_sound tabOk 100 ?_
    refine ⟨fun _ => ?_, fun h => by simp at h⟩
    refine Go_res [.blk b3 2 [.int .i64 x], spB bs a b c cur, a.r, b.r, c.r] (fun _ h => h) ?_
    show Go _ _ _ _
    refine Go_any mixed [9, 13] [(0, false), (1, false), (2, false), (3, false), (4, false), (5, false), (6, false), (8, false), (10, false), (11, false), (7, false), (9, true), (12, false), (13, true)] rfl (by kernel_rfl) (by kernel_rfl) [.blk b3 2 [.int .i64 x], spB bs a b c cur] (FrmX hfs) (FrmX.stable _) (fun w hm _ => ⟨Holds.of_idx [0, 1] hm, FrmX.of_mod hm⟩) ?_
    refine VC_sound tabOk 100 ?_
    refine ⟨⟨by omega, by omega⟩, ?_⟩
    (repeat (first | refine Or.inl ⟨rfl, rfl, ?_⟩ | refine Or.inl ⟨rfl, ?_⟩ | refine Or.inr ?_))
    refine Go_aloneM rfl rfl rfl (OpTo_mcall [a.r] [.blk b3 2 [.int .i64 x], spB bs a b c cur, b.r, c.r] ((List.perm_middle (l₁ := [_, _]))) rfl rfl rfl rfl rfl (by kernel_rfl)
      (fun w hb hm hio hsp h1 => sl_delete_E a.A a.c a.xs 143 #[] #[.pointer (some ⟨b3, 0, none⟩)] (fun e => decide (e.tx = x)) w (hb ++ hfs) h1 (by omega) (by kernel_rfl)
      (fun e _ Rs w h => spool_forC b3 x e w ((hsp _ _ h).blk_behind (i := 0) rfl))) ?_)
    rintro _ _ ⟨rfl, rfl⟩
    refine VC_sound tabOk 100 ?_
    refine ⟨⟨by omega, by omega⟩, ?_⟩
    (repeat (first | refine Or.inl ⟨rfl, rfl, ?_⟩ | refine Or.inl ⟨rfl, ?_⟩ | refine Or.inr ?_))
    refine ⟨_, wrap_i64 (n := ((0 : Nat) : Int) + 1) (by omega) (by omega), ?_⟩
    exact Go_fin 1 (by omega) (by omega) ⟨rfl, rfl, rfl, rfl, trivial⟩ (fun _ h => h.sel [1, 2, 0, 3, 4] rfl)
  · refine VC_sound tabOk 100 ?_
    refine ⟨fun _ => ?_, fun h => by simp at h⟩
    refine Go_res [.blk b3 2 [.int .i64 x], spB bs (tf x a) b c cur, (tf x a).r, b.r, c.r] (fun _ h => h) ?_
    show Go _ _ _ _
    refine Go_any mixed [9, 13] [(0, false), (1, false), (2, false), (3, false), (4, false), (5, false), (6, false), (8, false), (10, false), (11, false), (7, false), (9, true), (12, false), (13, true)] rfl (by kernel_rfl) (by kernel_rfl) [.blk b3 2 [.int .i64 x], spB bs (tf x a) b c cur] (FrmX hfs) (FrmX.stable _) (fun w hm _ => ⟨Holds.of_idx [0, 1] hm, FrmX.of_mod hm⟩) ?_
    refine VC_sound tabOk 100 ?_
    refine ⟨⟨by omega, by omega⟩, ?_⟩
    (repeat (first | refine Or.inl ⟨rfl, rfl, ?_⟩ | refine Or.inl ⟨rfl, ?_⟩ | refine Or.inr ?_))
    refine Go_aloneM rfl rfl rfl (OpTo_mcall [b.r] [.blk b3 2 [.int .i64 x], spB bs (tf x a) b c cur, (tf x a).r, c.r] ((List.perm_middle (l₁ := [_, _, _]))) rfl rfl rfl rfl rfl (by kernel_rfl)
      (fun w hb hm hio hsp h1 => sl_delete_E b.A b.c b.xs 143 #[] #[.pointer (some ⟨b3, 0, none⟩)] (fun e => decide (e.tx = x)) w (hb ++ hfs) h1 (by omega) (by kernel_rfl)
      (fun e _ Rs w h => spool_forC b3 x e w ((hsp _ _ h).blk_behind (i := 0) rfl))) ?_)
    rintro _ _ ⟨rfl, rfl⟩
    refine VC_sound tabOk 100 ?_
    refine ⟨⟨by omega, by omega⟩, ?_⟩
    (repeat (first | refine Or.inl ⟨rfl, rfl, ?_⟩ | refine Or.inl ⟨rfl, ?_⟩ | refine Or.inr ?_))
    refine ⟨_, wrap_i64 (n := ((1 : Nat) : Int) + 1) (by omega) (by omega), ?_⟩
    exact Go_fin 2 (by omega) (by omega) ⟨rfl, rfl, rfl, rfl, trivial⟩ (fun _ h => h.sel [1, 2, 3, 0, 4] rfl)
  · refine VC_sound tabOk 100 ?_
    refine ⟨fun _ => ?_, fun h => by simp at h⟩
    refine Go_res [.blk b3 2 [.int .i64 x], spB bs (tf x a) (tf x b) c cur, (tf x a).r, (tf x b).r, c.r] (fun _ h => h) ?_
    show Go _ _ _ _
    refine Go_any mixed [9, 13] [(0, false), (1, false), (2, false), (3, false), (4, false), (5, false), (6, false), (8, false), (10, false), (11, false), (7, false), (9, true), (12, false), (13, true)] rfl (by kernel_rfl) (by kernel_rfl) [.blk b3 2 [.int .i64 x], spB bs (tf x a) (tf x b) c cur] (FrmX hfs) (FrmX.stable _) (fun w hm _ => ⟨Holds.of_idx [0, 1] hm, FrmX.of_mod hm⟩) ?_
    refine VC_sound tabOk 100 ?_
    refine ⟨⟨by omega, by omega⟩, ?_⟩
    (repeat (first | refine Or.inl ⟨rfl, rfl, ?_⟩ | refine Or.inl ⟨rfl, ?_⟩ | refine Or.inr ?_))
    refine Go_aloneM rfl rfl rfl (OpTo_mcall [c.r] [.blk b3 2 [.int .i64 x], spB bs (tf x a) (tf x b) c cur, (tf x a).r, (tf x b).r] ((List.perm_middle (l₁ := [_, _, _, _]))) rfl rfl rfl rfl rfl (by kernel_rfl)
      (fun w hb hm hio hsp h1 => sl_delete_E c.A c.c c.xs 143 #[] #[.pointer (some ⟨b3, 0, none⟩)] (fun e => decide (e.tx = x)) w (hb ++ hfs) h1 (by omega) (by kernel_rfl)
      (fun e _ Rs w h => spool_forC b3 x e w ((hsp _ _ h).blk_behind (i := 0) rfl))) ?_)
    rintro _ _ ⟨rfl, rfl⟩
    refine VC_sound tabOk 100 ?_
    refine ⟨⟨by omega, by omega⟩, ?_⟩
    (repeat (first | refine Or.inl ⟨rfl, rfl, ?_⟩ | refine Or.inl ⟨rfl, ?_⟩ | refine Or.inr ?_))
    refine ⟨_, wrap_i64 (n := ((2 : Nat) : Int) + 1) (by omega) (by omega), ?_⟩
    exact Go_fin 3 (by omega) (by omega) ⟨rfl, rfl, rfl, rfl, trivial⟩ (fun _ h => h.sel [1, 2, 3, 4, 0] rfl)
  · refine VC_sound tabOk 100 ?_
    refine ⟨fun h => by simp at h, fun _ => ?_⟩
    refine Go_ops rfl (OpTo_pcall (v := .int .i64 (((tf x a).xs.length + (tf x b).xs.length + (tf x c).xs.length : Nat) : Int)) rfl rfl rfl rfl rfl (by kernel_rfl) (fun w hm _ => spool_len bs (tf x a) (tf x b) (tf x c) cur w (hm.blk_at (i := 1) rfl) (by omega) (by omega) (by omega)) ?_)
    refine VC_sound tabOk 100 ?_
    refine ⟨_, wrap_i64 (n := ((a.xs.length + b.xs.length + c.xs.length : Nat) : Int) - (((tf x a).xs.length + (tf x b).xs.length + (tf x c).xs.length : Nat) : Int)) (by omega) (by omega), ?_⟩
    exact ⟨_, ⟨rfl, rfl⟩, fun _ _ h => h.sel [1, 2, 3, 4] rfl⟩
end Go.Proofs.YthpcahgdobnljaaGreat.Sp
