/- What the functions of package tick do. -/
import Derived.Test.YthpcahgdobnljaaGreatSnap
import Derived.Test.YthpcahgdobnljaaGreatRxB
set_option maxRecDepth 100000
set_option autoImplicit false
set_option linter.unusedVariables false
namespace Go.Proofs.YthpcahgdobnljaaGreat.Tk
open Go.RX Go Go.RowKit

/-- A tick that is kept: its number, its snapshot (and where its list stands), its time. -/
structure TickM where
  n : Int
  mx : Int
  A : Option Addr
  c : Nat
  op : List Int
  t : Int

def encT : TickM → List Value := fun x => [.int .i64 x.n, .int .i64 x.mx, .slice x.A x.op.length x.c, .int .i64 x.t]
theorem encT_is : IsEnc encT 4 := ⟨fun _ => rfl, fun x v hv => by simp [encT] at hv; rcases hv with rfl | rfl | rfl | rfl <;> rfl, by decide⟩
abbrev mkT (x : TickM) : Value := .agg #[.int .i64 x.n, .int .i64 x.mx, .slice x.A x.op.length x.c, .int .i64 x.t]
def zeroT : TickM := ⟨0, 0, none, 0, [], 0⟩

set_option maxHeartbeats 400000 in
theorem sl_indexFunc_T (A : Option Addr) (c : Nat) (zs : List TickM) (f : FuncId) (first cap : Array Value) (p : TickM → Bool) (w0 : World) (hA : RdW w0 A (zs.flatMap encT)) (hn : zs.length ≤ 4611686018427387904) (hf : callable Tryz.prog f = true) (hp : Answers Tryz.prog w0 f first cap mkT p zs) :
    Calls Tryz.prog 135 #[.slice A zs.length c, .func (.func f) first cap] w0 fun e w' => e = .returned (.int .i64 (idxF p zs)) ∧ BelowD w0.heap.size w0 w' := by
  refine enterP (tab := tab) Tryz.func135 rfl Tryz.ntmps135 rfl (args := [_, _]) rfl ?_
  refine VC_sound tabOk 100 ?_
  refine Go_loop (σ := Nat) (fun i => [(0, .v (.slice A zs.length c)), (1, .v (.func (.func f) first cap)), (7, .v (.int .i64 zs.length)), (8, .v (.int .i64 i))]) (fun _ => []) (fun i => i ≤ zs.length ∧ ∀ j (h : j < zs.length), j < i → p zs[j] = false) (fun i => zs.length - i) 0 ⟨Nat.zero_le _, fun _ _ h => by omega⟩ ⟨rfl, rfl, rfl, rfl, trivial⟩ (fun _ h => h) ?_
  intro i ⟨hi, hne⟩
  refine VC_sound tabOk 100 ?_
  refine ⟨fun hb => ?_, fun hb => ?_⟩
  · have hlt : i < zs.length := by simpa using hb
    obtain ⟨b, o, rfl⟩ := RdW.some encT_is hA (ne_nil_of_lt hlt)
    refine ⟨⟨by omega, by omega⟩, ?_⟩
    refine Go_ops rfl (OpTo_loadRow tabOk encT_is (mkT zs[i]) rfl rfl rfl rfl rfl (fun h => by first | rfl | cases h) (fun w hm _ => hA.mod hm) (List.getElem?_eq_getElem hlt) rfl ?_)
    refine VC_sound tabOk 100 ?_
    refine Go_ops rfl (OpTo_pcall (v := .bool (p zs[i])) (av := first.toList ++ [mkT zs[i]] ++ cap.toList) rfl rfl rfl rfl rfl hf (fun w hm hio => hp zs[i] (List.getElem_mem hlt) w (hm.below hio)) ?_)
    refine VC_sound tabOk 100 ?_
    refine ⟨fun hb => ?_, fun hb => ?_⟩
    · exact congrArg (Value.int .i64) (idxF_at p zs i hlt hb hne).symm
    · refine ⟨_, wrap_i64 (n := (i : Int) + 1) (by omega) (by omega), ?_⟩
      refine Go_fin (i + 1) ⟨by omega, fun j h hj => ?_⟩ (by omega) ⟨rfl, rfl, rfl, rfl, trivial⟩ (fun _ h => h)
      by_cases e : j = i
      · subst e; exact hb
      · exact hne j h (by omega)
  · have hge : ¬ i < zs.length := by simpa using hb
    exact congrArg (Value.int .i64) (idxF_none p zs fun j h => hne j h (by omega)).symm


set_option maxHeartbeats 1000000 in
theorem sl_delete_T (A : Option Addr) (c : Nat) (xs : List TickM) (f : FuncId) (first cap : Array Value) (p : TickM → Bool) (w0 : World) (hfs : List PH) (hm : Mod hfs [own encT 4 44 A c xs] w0) (hn : xs.length ≤ 4611686018427387904) (hf : callable Tryz.prog f = true) (hp : AnswersM Tryz.prog hfs f first cap mkT p xs) :
    Calls Tryz.prog 130 #[.slice A xs.length c, .func (.func f) first cap] w0 fun e w' => ∃ v Rs', e = .returned v ∧ (v = .slice A (xs.filter fun x => !p x).length c ∧ Rs' = [own encT 4 44 A c (xs.filter fun x => !p x)]) ∧ Mod hfs Rs' w' ∧ Oth w0 w' := by
  have hcap := hm.own_le (i := 0) rfl
  refine enterN (tab := tab) Tryz.func130 rfl Tryz.ntmps130 rfl (args := [_, _]) rfl hm ?_
  refine VC_sound tabOk 100 ?_
  refine Go_ops rfl (OpTo_pcall (v := .int .i64 (idxF p xs)) rfl rfl rfl rfl rfl (by kernel_rfl) (fun w hm _ => sl_indexFunc_T A c xs f first cap p w (hm.own_rd (i := 0) rfl) hn hf (hp.answers hm)) ?_)
  refine VC_sound tabOk 100 ?_
  rcases idxF_spec p xs with ⟨h0, hall⟩ | ⟨i0, hi0, h0, hp0, hne0⟩
  · rw [h0]
    refine ⟨fun _ => ?_, fun h => nomatch h⟩
    have e : (xs.filter fun x => !p x) = xs := List.filter_eq_self.2 fun x hx => by simp [hall x hx]
    refine ⟨_, ⟨?_, ?_⟩, fun _ _ h => h⟩
    · rw [e]; rfl
    · rw [e]
  · rw [h0]
    refine ⟨fun h => ?_, fun _ => ?_⟩
    · have := of_decide_eq_true h; omega
    obtain ⟨hs0, hf0⟩ := Sift.start hi0 hp0 hne0
    refine ⟨_, wrap_i64 (n := (i0 : Int) + 1) (by omega) (by omega), ?_⟩
    obtain ⟨b, o, rfl⟩ := RdW.some encT_is (hm.own_rd (i := 0) rfl) (ne_nil_of_lt hi0)
    refine Go_loop (σ := Nat × List TickM) (fun s => [(0, .v (.slice (some ⟨b, o, none⟩) xs.length c)), (1, .v (.func (.func f) first cap)), (5, .v (.int .i64 (((xs.take s.1).filter fun x => !p x).length))), (6, .v (.int .i64 s.1))]) (fun s => [own encT 4 44 (some ⟨b, o, none⟩) c s.2])
      (fun s => Sift (fun x => !p x) xs s.2 s.1 ∧ ((xs.take s.1).filter fun x => !p x).length < s.1) (fun s => xs.length - s.1) (i0 + 1, xs) ⟨hs0, by simp only [hf0, List.length_take]; omega⟩ ⟨rfl, rfl, ?_, rfl, trivial⟩ (fun _ h => h) ?_
    · simp only [hf0, List.length_take, Nat.min_eq_left (Nat.le_of_lt hi0)]
    rintro ⟨j, ys⟩ ⟨hs, hlt0⟩
    simp only at hs hlt0
    dsimp only
    refine VC_sound tabOk 100 ?_
    refine ⟨fun h1 => ?_, fun h1 => ?_⟩
    · have hj : j < xs.length := by simpa using h1
      refine ⟨⟨by omega, by omega⟩, ?_⟩
      refine Go_ops rfl (OpTo_loadRow tabOk encT_is (mkT xs[j]) rfl rfl rfl rfl rfl (fun h => by first | rfl | cases h) (fun w hm _ => hm.own_rd (i := 0) rfl) (hs.at_ hj) rfl ?_)
      refine VC_sound tabOk 100 ?_
      intro b7 _
      (repeat (first | refine Or.inl ⟨rfl, rfl, ?_⟩ | refine Or.inl ⟨rfl, ?_⟩ | refine Or.inr ?_))
      refine Go_ops rfl (OpTo_pcall (v := .bool (p xs[j])) (av := first.toList ++ [mkT xs[j]] ++ cap.toList) rfl rfl rfl rfl rfl hf (fun w hm hio => hp xs[j] (List.getElem_mem hj) _ w hm) ?_)
      refine VC_sound tabOk 100 ?_
      refine ⟨fun h2 => ?_, fun h2 => ?_⟩
      · have hk := hs.keep hj (q := fun x => !p x) h2
        (repeat (first | refine Or.inl ⟨rfl, rfl, ?_⟩ | refine Or.inl ⟨rfl, ?_⟩ | refine Or.inr ?_))
        refine ⟨⟨by omega, by have := hs.len; omega⟩, ?_⟩
        (repeat (first | refine Or.inl ⟨rfl, rfl, ?_⟩ | refine Or.inl ⟨rfl, ?_⟩ | refine Or.inr ?_))
        show Go _ _ _ _
        refine Go_ops rfl (OpTo_storeRow tabOk encT_is (n := ((xs.take j).filter fun x => !p x).length) (s := .v (mkT xs[j])) (u := xs[j]) (xs := ys) 1 rfl rfl rfl rfl rfl rfl rfl (by have := hs.len; omega) rfl rfl ?_)
        refine VC_sound tabOk 100 ?_
        refine ⟨_, wrap_i64 (n := (((xs.take j).filter fun x => !p x).length : Int) + 1) (by omega) (by omega), ?_⟩
        refine ⟨_, wrap_i64 (n := (j : Int) + 1) (by omega) (by omega), ?_⟩
        refine Go_fin (j + 1, ys.set ((xs.take j).filter fun x => !p x).length xs[j]) ⟨hk.1, by simp only [hk.2, List.length_append, List.length_cons, List.length_nil]; omega⟩ (by simp; omega) ⟨rfl, rfl, ?_, rfl, trivial⟩ (fun _ h => h.sel [1] rfl)
        simp only [hk.2, List.length_append, List.length_cons, List.length_nil]; rfl
      · have hk := hs.skip hj (q := fun x => !p x) h2
        refine ⟨_, wrap_i64 (n := (j : Int) + 1) (by omega) (by omega), ?_⟩
        refine Go_fin (j + 1, ys) ⟨hk.1, by simp only [hk.2]; omega⟩ (by simp; omega) ⟨rfl, rfl, ?_, rfl, trivial⟩ (fun _ h => h.sel [1] rfl)
        simp only [hk.2]
    · have hj : ¬ j < xs.length := by simpa using h1
      obtain ⟨hd1, hd2⟩ := hs.done hj
      have hle := List.length_filter_le (fun x => !p x) xs
      have hyl := hs.len
      rw [hd2]
      refine ⟨⟨by omega, by omega⟩, ?_⟩
      show Go _ _ _ _
      refine Go_ops rfl (OpTo_clear tabOk encT_is (j := (xs.filter fun x => !p x).length) (m := xs.length - (xs.filter fun x => !p x).length) zeroT 0 rfl rfl rfl rfl rfl rfl rfl rfl (by omega) ?_)
      refine VC_sound tabOk 100 ?_
      refine ⟨⟨by omega, by omega⟩, ?_⟩
      refine ⟨_, ⟨rfl, rfl⟩, fun hfs w h => ?_⟩
      have h := h.own_take (i := 0) (n := (xs.filter fun x => !p x).length) encT_is (by simp; omega) rfl
      have e : (ys.take (xs.filter fun x => !p x).length ++ List.replicate (xs.length - (xs.filter fun x => !p x).length) zeroT).take (xs.filter fun x => !p x).length = xs.filter fun x => !p x := by
        rw [hd1]; simp
      rw [e] at h
      exact h



def rowQ (xs : List Int) : Value → List Res → Prop := fun v Rs => ∃ A c, v = .slice A xs.length c ∧ Rs = [own (encI .i64) 1 2 A c xs]
set_option maxHeartbeats 400000 in
theorem sl_clone (A : Option Addr) (c : Nat) (xs : List Int) (w0 : World) (hA : RdI w0 A xs) (hn : xs.length ≤ 1000000) :
    Calls Tryz.prog 177 #[.slice A xs.length c] w0 fun e w' => ∃ v Rs', e = .returned v ∧ rowQ xs v Rs' ∧ Mod [heapOf w0] Rs' w' ∧ Oth w0 w' := by
  refine enterN (tab := tab) Tryz.func177 rfl Tryz.ntmps177 rfl (args := [_]) rfl (Mod.start w0) ?_
  refine VC_sound tabOk 100 ?_
  refine ⟨fun h => ?_, fun h => ?_⟩
  · have hnil : xs = [] := by
      rcases hA with h1 | ⟨b, o, h1, _⟩
      · exact (encI_is .i64).flat_nil h1
      · rw [h1] at h; cases h
    subst hnil
    exact ⟨_, ⟨none, 0, rfl, rfl⟩, fun _ _ hm => hm.own_nil none⟩
  · intro b1 _
    refine Go_res [own (encI .i64) 1 2 (some ⟨b1, 0, none⟩) 0 []] (fun w h => h.own_blk (i := 0) (xs := []) rfl rfl (by simp)) ?_
    show Go _ _ _ _
    refine Go_ops rfl (OpTo_append tabOk (encI_is .i64) (ys := xs) (i := 0) rfl rfl rfl rfl rfl rfl rfl rfl rfl rfl rfl (fun w hm _ => hA.mod hm) (by simp; omega) (by simp; omega) (fun A2 c2 => ?_))
    refine VC_sound tabOk 100 ?_
    exact ⟨_, ⟨A2, c2, by simp; rfl, rfl⟩, fun _ _ hm => hm⟩

theorem tick_new (w0 : World) : Calls Tryz.prog 81 #[] w0 fun e w' => ∃ v Rs', e = .returned v ∧ (∃ bt, v = .pointer (some ⟨bt, 0, none⟩) ∧ Rs' = [.blk bt 131 [.slice none 0 0, .int .i64 0]]) ∧ Mod [heapOf w0] Rs' w' ∧ Oth w0 w' := by
  refine enterN (tab := tab) Tryz.func81 rfl Tryz.ntmps81 rfl (args := []) rfl (Mod.start w0) ?_
  refine VC_sound tabOk 100 ?_
  intro b1 _
  exact ⟨_, ⟨b1, rfl, rfl⟩, fun _ _ hm => hm⟩

theorem tick_len (bt : Nat) (A : Option Addr) (n c : Nat) (last : Int) (w0 : World) (hb : w0.heap[bt]? = some (.cells #[.slice A n c, .int .i64 last] 131 (0, 0))) :
    Calls Tryz.prog 79 #[.pointer (some ⟨bt, 0, none⟩)] w0 fun e w' => e = .returned (.int .i64 n) ∧ BelowD w0.heap.size w0 w' := by
  refine enterP (tab := tab) Tryz.func79 rfl Tryz.ntmps79 rfl (args := [_]) rfl ?_
  refine VC_sound tabOk 100 ?_
  refine Go_ops rfl (OpTo_loadBlk tabOk (cs := [.slice A n c, .int .i64 last]) (.slice A n c) rfl rfl rfl (fun w hm _ => hm.block_old hb) rfl ?_)
  refine VC_sound tabOk 100 ?_
  rfl
theorem tick_last (bt : Nat) (A : Option Addr) (n c : Nat) (last : Int) (w0 : World) (hb : w0.heap[bt]? = some (.cells #[.slice A n c, .int .i64 last] 131 (0, 0))) :
    Calls Tryz.prog 17 #[.pointer (some ⟨bt, 0, none⟩)] w0 fun e w' => e = .returned (.int .i64 last) ∧ BelowD w0.heap.size w0 w' := by
  refine enterP (tab := tab) Tryz.func17 rfl Tryz.ntmps17 rfl (args := [_]) rfl ?_
  refine VC_sound tabOk 100 ?_
  refine Go_ops rfl (OpTo_loadBlk tabOk (cs := [.slice A n c, .int .i64 last]) (.int .i64 last) rfl rfl rfl (fun w hm _ => hm.block_old hb) rfl ?_)
  refine VC_sound tabOk 100 ?_
  rfl

def copQ (x : TickM) : Value → List Res → Prop := fun v Rs => ∃ A c, v = mkT ⟨x.n, x.mx, A, c, x.op, x.t⟩ ∧ Rs = [own (encI .i64) 1 2 A c x.op]
set_option maxHeartbeats 400000 in
theorem tick_copied (x : TickM) (w0 : World) (hA : RdI w0 x.A x.op) (hn : x.op.length ≤ 1000000) :
    Calls Tryz.prog 136 #[mkT x] w0 fun e w' => ∃ v Rs', e = .returned v ∧ copQ x v Rs' ∧ Mod [heapOf w0] Rs' w' ∧ Oth w0 w' := by
  refine enterN (tab := tab) Tryz.func136 rfl Tryz.ntmps136 rfl (args := [_]) rfl (Mod.start w0) ?_
  refine VC_sound tabOk 100 ?_
  intro b1 _ b2 _
  (repeat (first | refine Or.inl ⟨rfl, rfl, ?_⟩ | refine Or.inl ⟨rfl, ?_⟩ | refine Or.inr ?_))
  show Go _ _ _ _
  refine Go_ops rfl (OpTo_ncall rfl rfl rfl rfl rfl (by kernel_rfl) (fun w hm _ => sl_clone x.A x.c x.op w (hA.mod hm) hn) ?_)
  rintro _ _ ⟨A1, c1, rfl, rfl⟩
  refine VC_sound tabOk 100 ?_
  (repeat (first | refine Or.inl ⟨rfl, rfl, ?_⟩ | refine Or.inl ⟨rfl, ?_⟩ | refine Or.inr ?_))
  exact Some_.sel [0] rfl ⟨A1, c1, rfl, rfl⟩

def tkFollows (ts : List TickM) (mx : Int) (op : List Int) (q : Int) : Bool := snRight mx op && (match ts.getLast? with
  | none => true
  | some l => snCovers mx op l.mx l.op && decide (l.t ≤ q))

/-- Ticks as numbers that fit. -/
def TkFit (ts : List TickM) : Prop := ∀ t ∈ ts, (0 ≤ t.mx ∧ t.mx ≤ 9223372036854775807) ∧ t.op.length ≤ 1000000

set_option maxHeartbeats 1000000 in
theorem tick_follows (bt : Nat) (A : Option Addr) (c : Nat) (ts : List TickM) (last mx : Int) (S : Option Addr) (d : Nat) (op : List Int) (q : Int) (w0 : World) (hb : w0.heap[bt]? = some (.cells #[.slice A ts.length c, .int .i64 last] 131 (0, 0))) (hA : RdW w0 A (ts.flatMap encT)) (hB : ∀ t ∈ ts, RdI w0 t.A t.op) (hS : RdI w0 S op)
    (hn : ts.length ≤ 4611686018427387904) (hn2 : op.length ≤ 1000000) (hf : TkFit ts) (hmx : -9223372036854775808 ≤ mx ∧ mx ≤ 9223372036854775807) :
    Calls Tryz.prog 139 #[.pointer (some ⟨bt, 0, none⟩), snV mx S op.length d, .int .i64 q] w0 fun e w' => e = .returned (.bool (tkFollows ts mx op q)) ∧ BelowD w0.heap.size w0 w' := by
  refine enterP (tab := tab) Tryz.func139 rfl Tryz.ntmps139 rfl (args := [_, _, _]) rfl ?_
  refine VC_sound tabOk 100 ?_
  intro b4 _
  (repeat (first | refine Or.inl ⟨rfl, rfl, ?_⟩ | refine Or.inl ⟨rfl, ?_⟩ | refine Or.inr ?_))
  refine Go_ops rfl (OpTo_pcall (v := .bool (snRight mx op)) rfl rfl rfl rfl rfl (by kernel_rfl) (fun w hm _ => snap_right mx S d op w (hS.mod hm) (by omega)) ?_)
  refine VC_sound tabOk 100 ?_
  refine ⟨fun h1 => ?_, fun h1 => ?_⟩
  · exact congrArg Value.bool (by simp at h1; simp [tkFollows, h1])
  have hr : snRight mx op = true := by simpa using h1
  have hmx1 : 1 ≤ mx := by simp only [snRight, Bool.and_eq_true, decide_eq_true_eq] at hr; exact hr.2
  (repeat (first | refine Or.inl ⟨rfl, rfl, ?_⟩ | refine Or.inl ⟨rfl, ?_⟩ | refine Or.inr ?_))
  refine Go_ops rfl (OpTo_loadBlk tabOk (cs := [.slice A ts.length c, .int .i64 last]) (.slice A ts.length c) rfl rfl rfl (fun w hm _ => hm.block_old hb) rfl ?_)
  refine VC_sound tabOk 100 ?_
  refine ⟨fun h2 => ?_, fun h2 => ?_⟩
  · have : ts = [] := by simpa using h2
    subst this
    exact congrArg Value.bool (by simp [tkFollows, hr])
  have hpos : 0 < ts.length := by
    have : ¬ ts.length = 0 := by simpa using h2
    omega
  have hlt : ts.length - 1 < ts.length := by omega
  obtain ⟨b, o, rfl⟩ := RdW.some encT_is hA (ne_nil_of_lt hpos)
  show Go _ _ _ _
  refine Go_any mixed [13] [(0, false), (1, false), (2, false), (4, false), (5, false), (6, false), (3, false), (7, false), (8, false), (9, false), (10, false), (11, false), (12, true), (13, true)] rfl (by kernel_rfl) (by kernel_rfl) [] (FrmX [heapOf w0]) (FrmX.stable _) (fun w hm _ => ⟨trivial, FrmX.of_mod hm⟩) ?_
  refine VC_sound tabOk 100 ?_
  refine Go_first (v := .slice (some ⟨b, o, none⟩) ts.length c) rfl rfl rfl rfl (fun w _ hw => run_loadVar_at tabOk rfl (hw (heapOf w0) (by simp) _ _ hb) rfl) ?_
  refine VC_sound tabOk 100 ?_
  refine Go_first (v := .slice (some ⟨b, o, none⟩) ts.length c) rfl rfl rfl rfl (fun w _ hw => run_loadVar_at tabOk rfl (hw (heapOf w0) (by simp) _ _ hb) rfl) ?_
  refine VC_sound tabOk 100 ?_
  refine ⟨_, wrap_i64 (n := (ts.length : Int) - 1) (by omega) (by omega), ?_⟩
  refine ⟨⟨by omega, by omega⟩, ?_⟩
  have hidx : ((ts.length : Int) - 1).toNat = ts.length - 1 := by omega
  refine Go_first (v := mkT ts[ts.length - 1]) rfl rfl rfl rfl (fun w _ hw => rxLoadRow tabOk rfl encT_is rfl (fun h => by cases h) (hA.heap.world (hw _ (by simp))) (List.getElem?_eq_getElem hlt) (by simp only [addA, hidx]) rfl) ?_
  refine VC_sound tabOk 100 ?_
  intro b7 _
  (repeat (first | refine Or.inl ⟨rfl, rfl, ?_⟩ | refine Or.inl ⟨rfl, ?_⟩ | refine Or.inr ?_))
  have hmem : ts[ts.length - 1] ∈ ts := List.getElem_mem hlt
  have hfl := hf _ hmem
  have hlast : ts.getLast? = some ts[ts.length - 1] := by rw [List.getLast?_eq_getElem?, List.getElem?_eq_getElem hlt]
  refine Go_ops rfl (OpTo_pcall (v := .bool (snCovers mx op ts[ts.length - 1].mx ts[ts.length - 1].op)) rfl rfl rfl rfl rfl (by kernel_rfl) (fun w hm _ => snap_covers mx ts[ts.length - 1].mx S ts[ts.length - 1].A d ts[ts.length - 1].c op ts[ts.length - 1].op w (hS.mod hm) ((hB _ hmem).mod hm) (by omega) (by omega) (by omega) hfl.1) ?_)
  refine VC_sound tabOk 100 ?_
  refine ⟨fun h3 => ?_, fun h3 => congrArg Value.bool (by simp [tkFollows, hr, hlast, h3])⟩
  (repeat (first | refine Or.inl ⟨rfl, rfl, ?_⟩ | refine Or.inl ⟨rfl, ?_⟩ | refine Or.inr ?_))
  exact congrArg Value.bool (by simp [tkFollows, hr, hlast, h3])

/-! ### Ticks as a whole -/
def tkBag (ts : List TickM) : List (Option Addr × List Value) := ts.map fun t => (t.A, t.op.flatMap (encI .i64))
def tkR (bt : Nat) (A : Option Addr) (c : Nat) (ts : List TickM) (last : Int) : List Res := [.blk bt 131 [.slice A ts.length c, .int .i64 last], own encT 4 44 A c ts, ro (tkBag ts)]
theorem tkR_blk {hfs : List PH} {bt : Nat} {A : Option Addr} {c : Nat} {ts : List TickM} {last : Int} {Rs : List Res} {w : World} (hm : Mod hfs (tkR bt A c ts last ++ Rs) w) : w.heap[bt]? = some (.cells #[.slice A ts.length c, .int .i64 last] 131 (0, 0)) := hm.blk_at (i := 0) rfl
theorem tkR_rd {hfs : List PH} {bt : Nat} {A : Option Addr} {c : Nat} {ts : List TickM} {last : Int} {Rs : List Res} {w : World} (hm : Mod hfs (tkR bt A c ts last ++ Rs) w) : RdW w A (ts.flatMap encT) := hm.own_rd (i := 1) rfl
theorem tkR_bag {hfs : List PH} {bt : Nat} {A : Option Addr} {c : Nat} {ts : List TickM} {last : Int} {Rs : List Res} {w : World} (hm : Mod hfs (tkR bt A c ts last ++ Rs) w) : ∀ t ∈ ts, RdI w t.A t.op :=
  fun t ht => hm.ro_rd (i := 2) rfl (List.mem_map.2 ⟨t, ht, rfl⟩)

/-- What Add comes to: 0: one more is kept; 8: full; 1: it doesn't follow. -/
def tkAdd (ts : List TickM) (mx : Int) (op : List Int) (q : Int) : Int := if 64 ≤ ts.length then 8 else if tkFollows ts mx op q = true then 0 else 1
def addQ (bt : Nat) (A : Option Addr) (c : Nat) (ts : List TickM) (last mx : Int) (op : List Int) (q : Int) : Value → List Res → Prop := fun v Rs =>
  (tkAdd ts mx op q ≠ 0 ∧ v = .tuple #[mkT zeroT, .int .i64 (tkAdd ts mx op q)] ∧ Rs = tkR bt A c ts last) ∨
  (tkAdd ts mx op q = 0 ∧ ∃ A1 c1 A2 c2 A3 c3, v = .tuple #[mkT ⟨last + 1, mx, A3, c3, op, q⟩, .int .i64 0] ∧ Rs = tkR bt A2 c2 (ts ++ [⟨last + 1, mx, A1, c1, op, q⟩]) (last + 1) ++ [own (encI .i64) 1 2 A3 c3 op])

set_option maxHeartbeats 2000000 in
theorem tick_add (bt : Nat) (A : Option Addr) (c : Nat) (ts : List TickM) (last mx : Int) (S : Option Addr) (d : Nat) (op : List Int) (q : Int) (w0 : World) (hfs : List PH) (hm : Mod hfs (tkR bt A c ts last) w0) (hS : RdF hfs S (op.flatMap (encI .i64)))
    (hn2 : op.length ≤ 1000000) (hf : TkFit ts) (hmx : -9223372036854775808 ≤ mx ∧ mx ≤ 9223372036854775807) (hl : 0 ≤ last ∧ last ≤ 1000000) (hts : ts.length ≤ 1000000) :
    Calls Tryz.prog 84 #[.pointer (some ⟨bt, 0, none⟩), snV mx S op.length d, .int .i64 q] w0 fun e w' => ∃ v Rs', e = .returned v ∧ addQ bt A c ts last mx op q v Rs' ∧ Mod hfs Rs' w' ∧ Oth w0 w' := by
  refine enterN (tab := tab) Tryz.func84 rfl Tryz.ntmps84 rfl (args := [_, _, _]) rfl hm ?_
  refine VC_sound tabOk 100 ?_
  intro b4 _ b6 _
  (repeat (first | refine Or.inl ⟨rfl, rfl, ?_⟩ | refine Or.inl ⟨rfl, ?_⟩ | refine Or.inr ?_))
  refine ⟨fun h1 => ?_, fun h1 => ?_⟩
  · (repeat (first | refine Or.inl ⟨rfl, rfl, ?_⟩ | refine Or.inl ⟨rfl, ?_⟩ | refine Or.inr ?_))
    have e : tkAdd ts mx op q = 8 := by simp at h1; simp only [tkAdd]; rw [if_pos (by omega)]
    exact ⟨_, .inl ⟨by rw [e]; decide, by rw [e]; rfl, rfl⟩, fun _ _ h => h.sel [2, 3, 4] rfl⟩
  have hlt : ts.length < 64 := by simp at h1; omega
  (repeat (first | refine Or.inl ⟨rfl, rfl, ?_⟩ | refine Or.inl ⟨rfl, ?_⟩ | refine Or.inr ?_))
  refine Go_ops rfl (OpTo_pcall (v := .bool (tkFollows ts mx op q)) rfl rfl rfl rfl rfl (by kernel_rfl) (fun w hm _ => tick_follows bt A c ts last mx S d op q w (hm.blk_at (i := 2) rfl) (hm.own_rd (i := 3) rfl) (fun t ht => hm.ro_rd (i := 4) rfl (List.mem_map.2 ⟨t, ht, rfl⟩)) (hS _ w hm) (by omega) hn2 hf hmx) ?_)
  refine VC_sound tabOk 100 ?_
  refine ⟨fun h2 => ?_, fun h2 => ?_⟩
  · (repeat (first | refine Or.inl ⟨rfl, rfl, ?_⟩ | refine Or.inl ⟨rfl, ?_⟩ | refine Or.inr ?_))
    have e : tkAdd ts mx op q = 1 := by simp at h2; simp only [tkAdd]; rw [if_neg (by omega), if_neg (by simp [h2])]
    exact ⟨_, .inl ⟨by rw [e]; decide, by rw [e]; rfl, rfl⟩, fun _ _ h => h.sel [2, 3, 4] rfl⟩
  have e0 : tkAdd ts mx op q = 0 := by simp at h2; simp only [tkAdd]; rw [if_neg (by omega), if_pos h2]
  (repeat (first | refine Or.inl ⟨rfl, rfl, ?_⟩ | refine Or.inl ⟨rfl, ?_⟩ | refine Or.inr ?_))
  refine ⟨_, wrap_i64 (n := last + 1) (by omega) (by omega), ?_⟩
  (repeat (first | refine Or.inl ⟨rfl, rfl, ?_⟩ | refine Or.inl ⟨rfl, ?_⟩ | refine Or.inr ?_))
  refine Go_res [.blk b6 44 [.int .i64 0, .int .i64 0, .slice none 0 0, .int .i64 0], .blk b4 42 [.int .i64 mx, .slice S op.length d], .blk bt 131 [.slice A ts.length c, .int .i64 (last + 1)], own encT 4 44 A c ts, ro (tkBag ts)] (fun _ h => h) ?_
  refine Go_cut (σ := Option Addr × Nat × Nat) (fun s => [(0, .v (.pointer (some ⟨bt, 0, none⟩))), (6, .v (.pointer (some ⟨b6, 0, none⟩))), (8, .v (.pointer (some ⟨s.2.2, 0, none⟩)))])
    (fun s => [.blk s.2.2 44 [.int .i64 (last + 1), .int .i64 mx, .slice s.1 op.length s.2.1, .int .i64 q], own (encI .i64) 1 2 s.1 s.2.1 op, .blk b6 44 [.int .i64 0, .int .i64 0, .slice none 0 0, .int .i64 0], .blk bt 131 [.slice A ts.length c, .int .i64 (last + 1)], own encT 4 44 A c ts, ro (tkBag ts)]) (fun _ => True) ?_ ?_
  · refine Go_any mixed [7, 9] [(0, false), (1, false), (2, false), (5, false), (3, false), (4, false), (6, false), (99, false), (99, false), (99, false)] rfl (by kernel_rfl) (by kernel_rfl) [.blk b4 42 [.int .i64 mx, .slice S op.length d], .blk bt 131 [.slice A ts.length c, .int .i64 (last + 1)]] (FrmX hfs) (FrmX.stable _) (fun w hm _ => ⟨Holds.of_mod hm (by simp), FrmX.of_mod hm⟩) ?_
    refine VC_sound tabOk 100 ?_
    (repeat (first | refine Or.inl ⟨rfl, rfl, ?_⟩ | refine Or.inl ⟨rfl, ?_⟩ | refine Or.inr ?_))
    have hcop := fun w (hm : Mod hfs [.blk b6 44 [.int .i64 0, .int .i64 0, .slice none 0 0, .int .i64 0], .blk b4 42 [.int .i64 mx, .slice S op.length d], .blk bt 131 [.slice A ts.length c, .int .i64 (last + 1)], own encT 4 44 A c ts, ro (tkBag ts)] w) => tick_copied ⟨last + 1, mx, S, d, op, q⟩ w (hS _ w hm) hn2
    refine Go_forkA 7 8 [(8, true), (9, true)] [(7, true), (9, true)] (by kernel_rfl) rfl rfl (by kernel_rfl) (by kernel_rfl) rfl rfl rfl rfl rfl (fun R w hm _ => ⟨Holds.of_mod hm (by simp), FrmX.of_mod hm⟩) ?_ ?_ tabOk
    · refine OpTo_ncall rfl rfl rfl rfl rfl (by kernel_rfl) (fun w hm _ => hcop w hm) ?_
      rintro _ _ ⟨A1, c1, rfl, rfl⟩
      refine VC_sound tabOk 100 ?_
      intro b8 _
      (repeat (first | refine Or.inl ⟨rfl, rfl, ?_⟩ | refine Or.inl ⟨rfl, ?_⟩ | refine Or.inr ?_))
      exact Go_put (A1, c1, b8) trivial ⟨rfl, rfl, rfl, trivial⟩ (fun _ h => h.sel [0, 1, 2, 4, 5, 6] rfl)
    · intro b8 _
      refine ⟨⟨_, rfl⟩, ?_⟩
      refine Go_aloneM rfl rfl rfl (OpTo_ncall rfl rfl rfl rfl rfl (by kernel_rfl) (fun w hm _ => tick_copied ⟨last + 1, mx, S, d, op, q⟩ w (hS _ w hm) hn2) ?_)
      rintro _ _ ⟨A1, c1, rfl, rfl⟩
      refine VC_sound tabOk 100 ?_
      (repeat (first | refine Or.inl ⟨rfl, rfl, ?_⟩ | refine Or.inl ⟨rfl, ?_⟩ | refine Or.inr ?_))
      exact Go_put (A1, c1, b8) trivial ⟨rfl, rfl, rfl, trivial⟩ (fun _ h => h.sel [1, 0, 2, 4, 5, 6] rfl)
  · rintro ⟨A1, c1, b8⟩ _
    dsimp only
    refine VC_sound tabOk 100 ?_
    show Go _ _ _ _
    refine Go_any mixed [7, 10] [(0, false), (1, false), (2, false), (3, false), (4, false), (5, false), (6, true), (7, true), (8, false), (9, false), (10, true)] rfl (by kernel_rfl) (by kernel_rfl) [.blk b8 44 [.int .i64 (last + 1), .int .i64 mx, .slice A1 op.length c1, .int .i64 q], .blk bt 131 [.slice A ts.length c, .int .i64 (last + 1)]] (FrmX hfs) (FrmX.stable _) (fun w hm _ => ⟨Holds.of_mod hm (by simp), FrmX.of_mod hm⟩) ?_
    refine VC_sound tabOk 100 ?_
    (repeat (first | refine Or.inl ⟨rfl, rfl, ?_⟩ | refine Or.inl ⟨rfl, ?_⟩ | refine Or.inr ?_))
    intro b9 _
    refine Go_aloneM rfl rfl rfl (OpTo_append tabOk encT_is (ys := [⟨last + 1, mx, A1, c1, op, q⟩]) (i := 5) rfl rfl rfl rfl rfl rfl rfl rfl rfl rfl rfl (fun w hm _ => hm.blk_rd (i := 0) rfl) (by simp; omega) (by simp; omega) (fun A2 c2 => ?_))
    refine VC_sound tabOk 100 ?_
    (repeat (first | refine Or.inl ⟨rfl, rfl, ?_⟩ | refine Or.inl ⟨rfl, ?_⟩ | refine Or.inr ?_))
    show Go _ _ _ _
    refine Go_ops rfl (OpTo_ncall rfl rfl rfl rfl rfl (by kernel_rfl) (fun w hm _ => tick_copied ⟨last + 1, mx, A1, c1, op, q⟩ w (hm.own_rd (i := 2) rfl) hn2) ?_)
    rintro _ _ ⟨A3, c3, rfl, rfl⟩
    refine VC_sound tabOk 100 ?_
    (repeat (first | refine Or.inl ⟨rfl, rfl, ?_⟩ | refine Or.inl ⟨rfl, ?_⟩ | refine Or.inr ?_))
    refine ⟨_, .inr ⟨e0, A1, c1, A2, c2, A3, c3, rfl, rfl⟩, fun hfs w h => ?_⟩
    have h := (h.sel [3, 7, 5, 6, 0] rfl).ro_add
    have h := h.ro_sub (i := 0) (tkBag (ts ++ [⟨last + 1, mx, A1, c1, op, q⟩])) rfl (by
      intro p hp
      simp only [tkBag, List.map_append, List.map_cons, List.map_nil, List.mem_append, List.mem_cons, List.not_mem_nil, or_false] at hp ⊢
      rcases hp with hp | hp
      · exact .inr hp
      · exact .inl hp)
    have h := h.sel [1, 2, 0, 3] rfl
    simp only [tkR, List.length_append, List.length_cons, List.length_nil]
    exact h

def tkGone (below last : Int) (x : TickM) : Bool := decide (x.n < below) && decide (x.n < last)
set_option maxHeartbeats 1000000 in
theorem tick_trim1 (bt b2 b3 : Nat) (A : Option Addr) (n c : Nat) (last below : Int) (x : TickM) (w0 : World) (hb : w0.heap[bt]? = some (.cells #[.slice A n c, .int .i64 last] 131 (0, 0))) (hb2 : w0.heap[b2]? = some (.cells #[.pointer (some ⟨bt, 0, none⟩)] 46 (0, 0))) (hb3 : w0.heap[b3]? = some (.cells #[.int .i64 below] 2 (0, 0))) :
    Calls Tryz.prog 131 #[mkT x, .pointer (some ⟨b3, 0, none⟩), .pointer (some ⟨b2, 0, none⟩)] w0 fun e w' => e = .returned (.bool (tkGone below last x)) ∧ BelowD w0.heap.size w0 w' := by
  refine enterP (tab := tab) Tryz.func131 rfl Tryz.ntmps131 rfl (args := [_, _, _]) rfl ?_
  refine VC_sound tabOk 100 ?_
  intro b4 _
  show Go _ _ _ _
  refine Go_any mixed [] [(0, false), (1, false), (2, false), (3, false), (4, false), (5, false), (6, false), (7, false), (8, false), (9, false), (10, false), (11, false), (12, false), (13, false)] rfl (by kernel_rfl) (by kernel_rfl) [.blk b4 44 [.int .i64 x.n, .int .i64 x.mx, .slice x.A x.op.length x.c, .int .i64 x.t]] (FrmX [heapOf w0]) (FrmX.stable _) (fun w hm _ => ⟨Holds.of_idx [0] hm, FrmX.of_mod hm⟩) ?_
  refine VC_sound tabOk 100 ?_
  (repeat (first | refine Or.inl ⟨rfl, rfl, ?_⟩ | refine Or.inl ⟨rfl, ?_⟩ | refine Or.inr ?_))
  refine Go_first (v := .int .i64 below) rfl rfl rfl rfl (fun w _ hw => run_loadVar_at tabOk rfl (hw (heapOf w0) (by simp) _ _ hb3) rfl) ?_
  refine VC_sound tabOk 100 ?_
  refine ⟨fun h1 => ?_, fun h1 => congrArg Value.bool (by simp [tkGone, h1])⟩
  (repeat (first | refine Or.inl ⟨rfl, rfl, ?_⟩ | refine Or.inl ⟨rfl, ?_⟩ | refine Or.inr ?_))
  refine Go_first (v := .pointer (some ⟨bt, 0, none⟩)) rfl rfl rfl rfl (fun w _ hw => run_loadVar_at tabOk rfl (hw (heapOf w0) (by simp) _ _ hb2) rfl) ?_
  refine VC_sound tabOk 100 ?_
  (repeat (first | refine Or.inl ⟨rfl, rfl, ?_⟩ | refine Or.inl ⟨rfl, ?_⟩ | refine Or.inr ?_))
  refine Go_first (v := .int .i64 last) rfl rfl rfl rfl (fun w _ hw => run_loadVar_at tabOk rfl (hw (heapOf w0) (by simp) _ _ hb) rfl) ?_
  refine VC_sound tabOk 100 ?_
  exact congrArg Value.bool (by simp [tkGone, h1])

def trimQ (bt : Nat) (A : Option Addr) (c : Nat) (ts : List TickM) (last below : Int) : Value → List Res → Prop := fun v Rs =>
  v = .int .i64 ((ts.length : Int) - (ts.filter fun x => !tkGone below last x).length) ∧ Rs = tkR bt A c (ts.filter fun x => !tkGone below last x) last
set_option maxHeartbeats 1000000 in
theorem tick_trim (bt : Nat) (A : Option Addr) (c : Nat) (ts : List TickM) (last below : Int) (w0 : World) (hfs : List PH) (hm : Mod hfs (tkR bt A c ts last) w0) (hn : ts.length ≤ 1000000) :
    Calls Tryz.prog 71 #[.pointer (some ⟨bt, 0, none⟩), .int .i64 below] w0 fun e w' => ∃ v Rs', e = .returned v ∧ trimQ bt A c ts last below v Rs' ∧ Mod hfs Rs' w' ∧ Oth w0 w' := by
  refine enterN (tab := tab) Tryz.func71 rfl Tryz.ntmps71 rfl (args := [_, _]) rfl hm ?_
  refine VC_sound tabOk 100 ?_
  intro b2 _ b3 _
  (repeat (first | refine Or.inl ⟨rfl, rfl, ?_⟩ | refine Or.inl ⟨rfl, ?_⟩ | refine Or.inr ?_))
  refine Go_ops rfl (OpTo_pcall (v := .int .i64 ts.length) rfl rfl rfl rfl rfl (by kernel_rfl) (fun w hm _ => tick_len bt A ts.length c last w (hm.blk_at (i := 2) rfl)) ?_)
  refine VC_sound tabOk 100 ?_
  refine ⟨fun h1 => ?_, fun h1 => ?_⟩
  · have : ts = [] := by simpa using h1
    subst this
    exact ⟨_, ⟨rfl, rfl⟩, fun _ _ h => h.sel [2, 3, 4] rfl⟩
  refine Go_sel [3, 1, 0, 2, 4] rfl ?_
  refine Go_res [own encT 4 44 A c ts, .blk b2 46 [.pointer (some ⟨bt, 0, none⟩)], .blk b3 2 [.int .i64 below], .blk bt 131 [.slice A ts.length c, .int .i64 last], ro (tkBag ts)] (fun _ h => h) ?_
  show Go _ _ _ _
  refine Go_any mixed [9] [(5, false), (0, false), (1, false), (2, false), (3, false), (4, false), (6, true), (7, false), (8, false), (9, true)] rfl (by kernel_rfl) (by kernel_rfl) [.blk b2 46 [.pointer (some ⟨bt, 0, none⟩)], .blk bt 131 [.slice A ts.length c, .int .i64 last]] (FrmX hfs) (FrmX.stable _) (fun w hm _ => ⟨Holds.of_idx [1, 3] hm, FrmX.of_mod hm⟩) ?_
  refine VC_sound tabOk 100 ?_
  (repeat (first | refine Or.inl ⟨rfl, rfl, ?_⟩ | refine Or.inl ⟨rfl, ?_⟩ | refine Or.inr ?_))
  refine Go_aloneL rfl rfl (OpTo_mcall [own encT 4 44 A c ts] [.blk b2 46 [.pointer (some ⟨bt, 0, none⟩)], .blk b3 2 [.int .i64 below], .blk bt 131 [.slice A ts.length c, .int .i64 last], ro (tkBag ts)] (List.Perm.refl _) rfl rfl rfl rfl rfl (by kernel_rfl)
    (fun w hb hm hio hsp h1 => sl_delete_T A c ts 131 #[] #[.pointer (some ⟨b3, 0, none⟩), .pointer (some ⟨b2, 0, none⟩)] (tkGone below last) w (hb ++ hfs) h1 (by omega) (by kernel_rfl)
      (fun x _ Rs w h => tick_trim1 bt b2 b3 A ts.length c last below x w ((hsp _ _ h).blk_behind (i := 2) rfl) ((hsp _ _ h).blk_behind (i := 0) rfl) ((hsp _ _ h).blk_behind (i := 1) rfl))) ?_)
  rintro _ _ ⟨rfl, rfl⟩
  refine And.intro (fun w hm _ => ⟨Holds.of_idx [1, 3] hm, FrmX.of_mod hm⟩) ?_
  refine VC_sound tabOk 100 ?_
  (repeat (first | refine Or.inl ⟨rfl, rfl, ?_⟩ | refine Or.inl ⟨rfl, ?_⟩ | refine Or.inr ?_))
  have hle := List.length_filter_le (fun x => !tkGone below last x) ts
  refine ⟨_, wrap_i64 (n := (ts.length : Int) - (ts.filter fun x => !tkGone below last x).length) (by omega) (by omega), ?_⟩
  refine ⟨_, ⟨rfl, rfl⟩, fun hfs w h => ?_⟩
  refine (h.ro_sub (i := 4) (tkBag (ts.filter fun x => !tkGone below last x)) rfl ?_).sel [3, 0, 4] rfl
  intro p hp
  obtain ⟨t, ht, rfl⟩ := List.mem_map.1 hp
  exact List.mem_map.2 ⟨t, (List.mem_filter.1 ht).1, rfl⟩

def someQ (p : TickM → Bool) (ts : List TickM) : Value → List Res → Prop := fun v Rs =>
  (ts.find? p = none ∧ v = .tuple #[mkT zeroT, .bool false] ∧ Rs = []) ∨ ∃ x A c, ts.find? p = some x ∧ v = .tuple #[mkT ⟨x.n, x.mx, A, c, x.op, x.t⟩, .bool true] ∧ Rs = [own (encI .i64) 1 2 A c x.op]
set_option maxHeartbeats 1000000 in
theorem tick_some (bt : Nat) (A : Option Addr) (c : Nat) (ts : List TickM) (last : Int) (f : FuncId) (first cap : Array Value) (p : TickM → Bool) (w0 : World) (hb : w0.heap[bt]? = some (.cells #[.slice A ts.length c, .int .i64 last] 131 (0, 0))) (hA : RdW w0 A (ts.flatMap encT)) (hB : ∀ t ∈ ts, RdI w0 t.A t.op) (hn : ts.length ≤ 1000000) (hft : TkFit ts)
    (hf : callable Tryz.prog f = true) (hp : Answers Tryz.prog w0 f first cap mkT p ts) :
    Calls Tryz.prog 74 #[.pointer (some ⟨bt, 0, none⟩), .func (.func f) first cap] w0 fun e w' => ∃ v Rs', e = .returned v ∧ someQ p ts v Rs' ∧ Mod [heapOf w0] Rs' w' ∧ Oth w0 w' := by
  refine enterN (tab := tab) Tryz.func74 rfl Tryz.ntmps74 rfl (args := [_, _]) rfl (Mod.start w0) ?_
  refine VC_sound tabOk 100 ?_
  intro b4 _
  (repeat (first | refine Or.inl ⟨rfl, rfl, ?_⟩ | refine Or.inl ⟨rfl, ?_⟩ | refine Or.inr ?_))
  refine Go_ops rfl (OpTo_loadBlk tabOk (cs := [.slice A ts.length c, .int .i64 last]) (.slice A ts.length c) rfl rfl rfl (fun w hm _ => hm.block_old hb) rfl ?_)
  refine VC_sound tabOk 100 ?_
  refine Go_ops rfl (OpTo_pcall (v := .int .i64 (idxF p ts)) rfl rfl rfl rfl rfl (by kernel_rfl) (fun w hm hio => sl_indexFunc_T A c ts f first cap p w (hA.mod hm) (by omega) hf (hp.below (hm.below hio))) ?_)
  refine VC_sound tabOk 100 ?_
  rcases idxF_spec p ts with ⟨h0, hall⟩ | ⟨i, hi, h0, hpi, hne⟩
  · rw [h0]
    refine ⟨fun _ => ?_, fun h => nomatch h⟩
    (repeat (first | refine Or.inl ⟨rfl, rfl, ?_⟩ | refine Or.inl ⟨rfl, ?_⟩ | refine Or.inr ?_))
    exact ⟨_, .inl ⟨find_none hall, rfl, rfl⟩, fun _ _ h => h.sel [] rfl⟩
  · rw [h0]
    refine ⟨fun h => ?_, fun _ => ?_⟩
    · have := of_decide_eq_true h; omega
    (repeat (first | refine Or.inl ⟨rfl, rfl, ?_⟩ | refine Or.inl ⟨rfl, ?_⟩ | refine Or.inr ?_))
    refine Go_ops rfl (OpTo_loadBlk tabOk (cs := [.slice A ts.length c, .int .i64 last]) (.slice A ts.length c) rfl rfl rfl (fun w hm _ => hm.block_old hb) rfl ?_)
    obtain ⟨b, o, rfl⟩ := RdW.some encT_is hA (ne_nil_of_lt hi)
    refine VC_sound tabOk 100 ?_
    refine ⟨⟨by omega, by omega⟩, ?_⟩
    (repeat (first | refine Or.inl ⟨rfl, rfl, ?_⟩ | refine Or.inl ⟨rfl, ?_⟩ | refine Or.inr ?_))
    refine Go_ops rfl (OpTo_loadRow tabOk encT_is (mkT ts[i]) rfl rfl rfl rfl rfl (fun h => by cases h) (fun w hm _ => hA.mod hm) (List.getElem?_eq_getElem hi) rfl ?_)
    refine VC_sound tabOk 100 ?_
    have hmem : ts[i] ∈ ts := List.getElem_mem hi
    show Go _ _ _ _
    refine Go_ops rfl (OpTo_ncall (Qc := copQ ts[i]) rfl rfl rfl rfl rfl (by kernel_rfl) (fun w hm _ => tick_copied ts[i] w ((hB _ hmem).mod hm) (hft _ hmem).2) ?_)
    rintro _ _ ⟨A1, c1, rfl, rfl⟩
    refine VC_sound tabOk 100 ?_
    (repeat (first | refine Or.inl ⟨rfl, rfl, ?_⟩ | refine Or.inl ⟨rfl, ?_⟩ | refine Or.inr ?_))
    exact ⟨_, .inr ⟨ts[i], A1, c1, find_of hi hpi hne, rfl, rfl⟩, fun _ _ h => h.sel [0] rfl⟩
def tkIs (q : Int) (x : TickM) : Bool := decide (x.n = q)
def tkAft (q : Int) (x : TickM) : Bool := decide (q < x.n)

theorem tick_get1 (b3 : Nat) (q : Int) (x : TickM) (w0 : World) (hb3 : w0.heap[b3]? = some (.cells #[.int .i64 q] 2 (0, 0))) :
    Calls Tryz.prog 75 #[mkT x, .pointer (some ⟨b3, 0, none⟩)] w0 fun e w' => e = .returned (.bool (tkIs q x)) ∧ BelowD w0.heap.size w0 w' := by
  refine enterP (tab := tab) Tryz.func75 rfl Tryz.ntmps75 rfl (args := [_, _]) rfl ?_
  refine VC_sound tabOk 100 ?_
  intro b4 _
  (repeat (first | refine Or.inl ⟨rfl, rfl, ?_⟩ | refine Or.inl ⟨rfl, ?_⟩ | refine Or.inr ?_))
  refine Go_ops rfl (OpTo_loadBlk tabOk (cs := [.int .i64 q]) (.int .i64 q) rfl rfl rfl (fun w hm _ => hm.block_old hb3) rfl ?_)
  refine VC_sound tabOk 100 ?_
  rfl
set_option maxHeartbeats 400000 in
theorem tick_get (bt : Nat) (A : Option Addr) (c : Nat) (ts : List TickM) (last q : Int) (w0 : World) (hb : w0.heap[bt]? = some (.cells #[.slice A ts.length c, .int .i64 last] 131 (0, 0))) (hA : RdW w0 A (ts.flatMap encT)) (hB : ∀ t ∈ ts, RdI w0 t.A t.op) (hn : ts.length ≤ 1000000) (hf : TkFit ts) :
    Calls Tryz.prog 16 #[.pointer (some ⟨bt, 0, none⟩), .int .i64 q] w0 fun e w' => ∃ v Rs', e = .returned v ∧ someQ (tkIs q) ts v Rs' ∧ Mod [heapOf w0] Rs' w' ∧ Oth w0 w' := by
  refine enterN (tab := tab) Tryz.func16 rfl Tryz.ntmps16 rfl (args := [_, _]) rfl (Mod.start w0) ?_
  refine VC_sound tabOk 100 ?_
  intro b3 _ b4 _
  show Go _ _ _ _
  refine Go_ops rfl (OpTo_ncall rfl rfl rfl rfl rfl (by kernel_rfl) (fun w hm _ => tick_some bt A c ts last 75 #[] #[.pointer (some ⟨b3, 0, none⟩)] (tkIs q) w (hm.block_old hb) (hA.mod hm) (fun t ht => (hB t ht).mod hm) hn hf (by kernel_rfl) (fun x _ w2 h2 => tick_get1 b3 q x w2 (blk_below h2 (hm.blk_at (i := 1) rfl)))) ?_)
  rintro _ _ (⟨h, rfl, rfl⟩ | ⟨x, A1, c1, h, rfl, rfl⟩)
  · refine VC_sound tabOk 100 ?_
    (repeat (first | refine Or.inl ⟨rfl, rfl, ?_⟩ | refine Or.inl ⟨rfl, ?_⟩ | refine Or.inr ?_))
    exact ⟨_, .inl ⟨h, rfl, rfl⟩, fun _ _ h => h.sel [] rfl⟩
  · refine VC_sound tabOk 100 ?_
    (repeat (first | refine Or.inl ⟨rfl, rfl, ?_⟩ | refine Or.inl ⟨rfl, ?_⟩ | refine Or.inr ?_))
    exact ⟨_, .inr ⟨x, A1, c1, h, rfl, rfl⟩, fun _ _ h => h.sel [0] rfl⟩

theorem tick_after1 (b3 : Nat) (q : Int) (x : TickM) (w0 : World) (hb3 : w0.heap[b3]? = some (.cells #[.int .i64 q] 2 (0, 0))) :
    Calls Tryz.prog 152 #[mkT x, .pointer (some ⟨b3, 0, none⟩)] w0 fun e w' => e = .returned (.bool (tkAft q x)) ∧ BelowD w0.heap.size w0 w' := by
  refine enterP (tab := tab) Tryz.func152 rfl Tryz.ntmps152 rfl (args := [_, _]) rfl ?_
  refine VC_sound tabOk 100 ?_
  intro b4 _
  (repeat (first | refine Or.inl ⟨rfl, rfl, ?_⟩ | refine Or.inl ⟨rfl, ?_⟩ | refine Or.inr ?_))
  refine Go_ops rfl (OpTo_loadBlk tabOk (cs := [.int .i64 q]) (.int .i64 q) rfl rfl rfl (fun w hm _ => hm.block_old hb3) rfl ?_)
  refine VC_sound tabOk 100 ?_
  rfl
set_option maxHeartbeats 400000 in
theorem tick_after (bt : Nat) (A : Option Addr) (c : Nat) (ts : List TickM) (last q : Int) (w0 : World) (hb : w0.heap[bt]? = some (.cells #[.slice A ts.length c, .int .i64 last] 131 (0, 0))) (hA : RdW w0 A (ts.flatMap encT)) (hB : ∀ t ∈ ts, RdI w0 t.A t.op) (hn : ts.length ≤ 1000000) (hf : TkFit ts) :
    Calls Tryz.prog 97 #[.pointer (some ⟨bt, 0, none⟩), .int .i64 q] w0 fun e w' => ∃ v Rs', e = .returned v ∧ someQ (tkAft q) ts v Rs' ∧ Mod [heapOf w0] Rs' w' ∧ Oth w0 w' := by
  refine enterN (tab := tab) Tryz.func97 rfl Tryz.ntmps97 rfl (args := [_, _]) rfl (Mod.start w0) ?_
  refine VC_sound tabOk 100 ?_
  intro b3 _ b4 _
  show Go _ _ _ _
  refine Go_ops rfl (OpTo_ncall rfl rfl rfl rfl rfl (by kernel_rfl) (fun w hm _ => tick_some bt A c ts last 152 #[] #[.pointer (some ⟨b3, 0, none⟩)] (tkAft q) w (hm.block_old hb) (hA.mod hm) (fun t ht => (hB t ht).mod hm) hn hf (by kernel_rfl) (fun x _ w2 h2 => tick_after1 b3 q x w2 (blk_below h2 (hm.blk_at (i := 1) rfl)))) ?_)
  rintro _ _ (⟨h, rfl, rfl⟩ | ⟨x, A1, c1, h, rfl, rfl⟩)
  · refine VC_sound tabOk 100 ?_
    (repeat (first | refine Or.inl ⟨rfl, rfl, ?_⟩ | refine Or.inl ⟨rfl, ?_⟩ | refine Or.inr ?_))
    exact ⟨_, .inl ⟨h, rfl, rfl⟩, fun _ _ h => h.sel [] rfl⟩
  · refine VC_sound tabOk 100 ?_
    (repeat (first | refine Or.inl ⟨rfl, rfl, ?_⟩ | refine Or.inl ⟨rfl, ?_⟩ | refine Or.inr ?_))
    exact ⟨_, .inr ⟨x, A1, c1, h, rfl, rfl⟩, fun _ _ h => h.sel [0] rfl⟩


def putQ (bt : Nat) (A : Option Addr) (c : Nat) (ts : List TickM) (last : Int) (x : TickM) : Value → List Res → Prop := fun v Rs =>
  (x.n ≠ last + 1 ∧ v = .int .i64 1 ∧ Rs = tkR bt A c ts last) ∨
  (x.n = last + 1 ∧ tkAdd ts x.mx x.op x.t ≠ 0 ∧ v = .int .i64 (tkAdd ts x.mx x.op x.t) ∧ Rs = tkR bt A c ts last) ∨
  (x.n = last + 1 ∧ tkAdd ts x.mx x.op x.t = 0 ∧ v = .int .i64 0 ∧ ∃ A1 c1 A2 c2, Rs = tkR bt A2 c2 (ts ++ [⟨last + 1, x.mx, A1, c1, x.op, x.t⟩]) (last + 1))

/-! ### of none -/
theorem tick_len_nil (w0 : World) : Calls Tryz.prog 79 #[.pointer none] w0 fun e w' => e = .returned (.int .i64 0) ∧ BelowD w0.heap.size w0 w' := by
  refine enterP (tab := tab) Tryz.func79 rfl Tryz.ntmps79 rfl (args := [_]) rfl ?_
  refine VC_sound tabOk 100 ?_
  rfl
theorem tick_last_nil (w0 : World) : Calls Tryz.prog 17 #[.pointer none] w0 fun e w' => e = .returned (.int .i64 0) ∧ BelowD w0.heap.size w0 w' := by
  refine enterP (tab := tab) Tryz.func17 rfl Tryz.ntmps17 rfl (args := [_]) rfl ?_
  refine VC_sound tabOk 100 ?_
  rfl
theorem tick_trim_nil (n : Int) (w0 : World) : Calls Tryz.prog 71 #[.pointer none, .int .i64 n] w0 fun e w' => e = .returned (.int .i64 0) ∧ BelowD w0.heap.size w0 w' := by
  refine enterP (tab := tab) Tryz.func71 rfl Tryz.ntmps71 rfl (args := [_, _]) rfl ?_
  refine VC_sound tabOk 100 ?_
  intro b2 _ b3 _
  (repeat (first | refine Or.inl ⟨rfl, rfl, ?_⟩ | refine Or.inl ⟨rfl, ?_⟩ | refine Or.inr ?_))
  refine Go_ops rfl (OpTo_pcall (v := .int .i64 0) rfl rfl rfl rfl rfl (by kernel_rfl) (fun w hm _ => tick_len_nil w) ?_)
  refine VC_sound tabOk 100 ?_
  refine ⟨fun _ => ?_, fun h => by simp at h⟩
  rfl
theorem tick_add_nil (mx : Int) (S : Option Addr) (n d : Nat) (q : Int) (w0 : World) : Calls Tryz.prog 84 #[.pointer none, snV mx S n d, .int .i64 q] w0 fun e w' => e = .returned (.tuple #[mkT zeroT, .int .i64 4]) ∧ BelowD w0.heap.size w0 w' := by
  refine enterP (tab := tab) Tryz.func84 rfl Tryz.ntmps84 rfl (args := [_, _, _]) rfl ?_
  refine VC_sound tabOk 100 ?_
  intro b4 _ b6 _
  (repeat (first | refine Or.inl ⟨rfl, rfl, ?_⟩ | refine Or.inl ⟨rfl, ?_⟩ | refine Or.inr ?_))
  rfl
theorem tick_some_nil (f : Value) (w0 : World) : Calls Tryz.prog 74 #[.pointer none, f] w0 fun e w' => e = .returned (.tuple #[mkT zeroT, .bool false]) ∧ BelowD w0.heap.size w0 w' := by
  refine enterP (tab := tab) Tryz.func74 rfl Tryz.ntmps74 rfl (args := [_, _]) rfl ?_
  refine VC_sound tabOk 100 ?_
  intro b4 _
  (repeat (first | refine Or.inl ⟨rfl, rfl, ?_⟩ | refine Or.inl ⟨rfl, ?_⟩ | refine Or.inr ?_))
  rfl
theorem tick_get_nil (q : Int) (w0 : World) : Calls Tryz.prog 16 #[.pointer none, .int .i64 q] w0 fun e w' => e = .returned (.tuple #[mkT zeroT, .bool false]) ∧ BelowD w0.heap.size w0 w' := by
  refine enterP (tab := tab) Tryz.func16 rfl Tryz.ntmps16 rfl (args := [_, _]) rfl ?_
  refine VC_sound tabOk 100 ?_
  intro b3 _ b4 _
  refine Go_ops rfl (OpTo_pcall (v := .tuple #[mkT zeroT, .bool false]) rfl rfl rfl rfl rfl (by kernel_rfl) (fun w hm _ => tick_some_nil _ w) ?_)
  refine VC_sound tabOk 100 ?_
  (repeat (first | refine Or.inl ⟨rfl, rfl, ?_⟩ | refine Or.inl ⟨rfl, ?_⟩ | refine Or.inr ?_))
  rfl
theorem tick_after_nil (q : Int) (w0 : World) : Calls Tryz.prog 97 #[.pointer none, .int .i64 q] w0 fun e w' => e = .returned (.tuple #[mkT zeroT, .bool false]) ∧ BelowD w0.heap.size w0 w' := by
  refine enterP (tab := tab) Tryz.func97 rfl Tryz.ntmps97 rfl (args := [_, _]) rfl ?_
  refine VC_sound tabOk 100 ?_
  intro b3 _ b4 _
  refine Go_ops rfl (OpTo_pcall (v := .tuple #[mkT zeroT, .bool false]) rfl rfl rfl rfl rfl (by kernel_rfl) (fun w hm _ => tick_some_nil _ w) ?_)
  refine VC_sound tabOk 100 ?_
  (repeat (first | refine Or.inl ⟨rfl, rfl, ?_⟩ | refine Or.inl ⟨rfl, ?_⟩ | refine Or.inr ?_))
  rfl
end Go.Proofs.YthpcahgdobnljaaGreat.Tk
