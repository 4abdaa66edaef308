/- What the functions of package batch do. -/
import Derived.Test.YthpcahgdobnljaaGreatTxn
import Derived.Test.YthpcahgdobnljaaGreatSnap
import Derived.Test.YthpcahgdobnljaaGreatStabE
set_option maxRecDepth 100000
set_option autoImplicit false
set_option linter.unusedVariables false
set_option linter.unusedSimpArgs false
namespace Go.Proofs.YthpcahgdobnljaaGreat.Bt
open Go.RX Go Go.RowKit



/-- What cmp.Compare answers. -/
def cmpI (x y : Int) : Int := if ltI x y = true then -1 else if ltI y x = true then 1 else 0
theorem cmpI_lt (x y : Int) : decide (cmpI x y < 0) = ltI x y := by
  by_cases h : ltI x y = true
  · simp [cmpI, h]
  · by_cases h2 : ltI y x = true
    · simp [cmpI, h, h2]
    · simp [cmpI, h, h2]
theorem cmp_nan_I (x : Int) (w0 : World) : Calls Tryz.prog 150 #[Value.int .i64 x] w0 fun e w' => e = .returned (.bool false) ∧ BelowD w0.heap.size w0 w' := by
  refine enterP (tab := tab) Tryz.func150 rfl Tryz.ntmps150 rfl (args := [_]) rfl ?_
  refine VC_sound tabOk 100 ?_
  exact congrArg Value.bool (by simp)
theorem cmp_compare_I (x y : Int) (w0 : World) : Calls Tryz.prog 95 #[Value.int .i64 x, Value.int .i64 y] w0 fun e w' => e = .returned (.int .i64 (cmpI x y)) ∧ BelowD w0.heap.size w0 w' := by
  refine enterP (tab := tab) Tryz.func95 rfl Tryz.ntmps95 rfl (args := [_, _]) rfl ?_
  refine VC_sound tabOk 100 ?_
  refine Go_ops rfl (OpTo_pcall (v := .bool false) rfl rfl rfl rfl rfl (by kernel_rfl) (fun w hm _ => cmp_nan_I x w) ?_)
  refine VC_sound tabOk 100 ?_
  refine Go_ops rfl (OpTo_pcall (v := .bool false) rfl rfl rfl rfl rfl (by kernel_rfl) (fun w hm _ => cmp_nan_I y w) ?_)
  refine VC_sound tabOk 100 ?_
  refine ⟨fun h => by simp at h, fun _ => ?_⟩
  refine ⟨fun h => by simp at h, fun _ => ?_⟩
  refine ⟨fun h => ?_, fun h => ?_⟩
  · exact congrArg (Value.int .i64) (if_pos (by simpa [ltI] using h)).symm
  · refine ⟨fun h2 => ?_, fun h2 => ?_⟩
    · exact congrArg (Value.int .i64) (by rw [cmpI, if_neg (by simpa [ltI] using h), if_pos (by simpa [ltI] using h2)])
    · exact congrArg (Value.int .i64) (by rw [cmpI, if_neg (by simpa [ltI] using h), if_neg (by simpa [ltI] using h2)])


def bsEq (a b : ByteArray) : Bool := a.toList == b.toList
def emptyS : ByteArray := ⟨#[]⟩
/-- Is an event somebody's? -/
def dueB (e : EventM) (o : ByteArray) : Bool := bsEq e.owner emptyS || bsEq e.owner o
theorem event_due (e : EventM) (o : ByteArray) (w0 : World) : Calls Tryz.prog 153 #[mkE e, .string o] w0 fun r w' => r = .returned (.bool (dueB e o)) ∧ BelowD w0.heap.size w0 w' := by
  refine enterP (tab := tab) Tryz.func153 rfl Tryz.ntmps153 rfl (args := [_, _]) rfl ?_
  refine VC_sound tabOk 100 ?_
  intro b _
  (repeat (first | refine Or.inl ⟨rfl, rfl, ?_⟩ | refine Or.inl ⟨rfl, ?_⟩ | refine Or.inr ?_))
  refine ⟨fun h => ?_, fun h => ?_⟩
  · exact congrArg Value.bool (by
      have h' : bsEq e.owner emptyS = true := h
      simp [dueB, h'])
  · (repeat (first | refine Or.inl ⟨rfl, rfl, ?_⟩ | refine Or.inl ⟨rfl, ?_⟩ | refine Or.inr ?_))
    exact congrArg Value.bool (by
      have h' : bsEq e.owner emptyS = false := h
      simp [dueB, h']; rfl)

/-- What a manager says of each transaction, in a world and behind it. -/
def StOk (w0 : World) (mv : Value) (st : Int → Int) : Prop := ∀ w, (∀ n, n < w0.heap.size → w.heap[n]? = w0.heap[n]?) → ∀ x, Calls Tryz.prog 25 #[mv, .int .i64 x] w fun e w' => e = .returned (.int .u8 (st x)) ∧ BelowD w.heap.size w w'
theorem StOk.old {w0 w : World} {mv : Value} {st : Int → Int} (h : StOk w0 mv st) (hs : w0.heap.size ≤ w.heap.size) (hk : ∀ n, n < w0.heap.size → w.heap[n]? = w0.heap[n]?) : StOk w mv st := fun w2 h2 x => h w2 (fun n hn => by rw [h2 n (by omega), hk n hn]) x
theorem StOk.none (w0 : World) : StOk w0 (.pointer none) (fun _ => 0) := fun w _ x => txn_state_nil' x w
theorem StOk.some {w0 : World} {m b1 b2 : Nat} {s : TxS} (hb : w0.heap[m]? = .some (.cells #[.int .i64 s.next, .map (.some b1), .map (.some b2)] 136 (0, 0))) (hO : MpAt KI Value.bool w0 b1 (tm s.O)) (hD : MpAt KI Value.bool w0 b2 (tm s.D)) : StOk w0 (.pointer (.some ⟨m, 0, .none⟩)) (stE s) :=
  fun w hk x => txn_state_p m b1 b2 s x w (by rw [hk m (Array.getElem?_eq_some_iff.1 hb).1]; exact hb) (hO.old hk) (hD.old hk)

abbrev evCmp : EventM → EventM → Int := fun a b => cmpI a.id b.id
theorem evCmp_ok : Cmps ltI EventM.id evCmp := fun a b => cmpI_lt a.id b.id
theorem batch_ofC : AnsC Tryz.prog 155 #[] #[] mkE evCmp := fun a b w0 => by
  show Calls Tryz.prog 155 #[mkE a, mkE b] w0 _
  refine enterP (tab := tab) Tryz.func155 rfl Tryz.ntmps155 rfl (args := [_, _]) rfl ?_
  refine VC_sound tabOk 100 ?_
  intro b1 _
  intro b2 _
  (repeat (first | refine Or.inl ⟨rfl, rfl, ?_⟩ | refine Or.inl ⟨rfl, ?_⟩ | refine Or.inr ?_))
  refine Go_ops rfl (OpTo_pcall (v := .int .i64 (cmpI a.id b.id)) rfl rfl rfl rfl rfl (by kernel_rfl) (fun w hm _ => cmp_compare_I a.id b.id w) ?_)
  refine VC_sound tabOk 100 ?_
  rfl

/-- The events by their numbers. -/
def Srt (xs ys : List EventM) : Prop := SameBy EventM.id xs ys ∧ Rise ltI EventM.id ys ∧ ys.length = xs.length
/-- A snapshot: the next one's number, who is open. -/
structure SnM where
  mx : Int
  A : Option Addr
  c : Nat
  op : List Int
abbrev SnM.v (s : SnM) : Value := snV s.mx s.A s.op.length s.c
abbrev SnM.rd (s : SnM) (w : World) : Prop := RdI w s.A s.op ∧ s.op.length ≤ 100000
abbrev SnM.sees (s : SnM) (x : Int) : Bool := snSees s.mx s.op x
def bofP (st : Int → Int) (f t : SnM) (o : ByteArray) (e : EventM) : Bool := decide (st e.tx = 2) && (dueB e o && (t.sees e.tx && !f.sees e.tx))

def rowEQ (xs : List EventM) : Value → List Res → Prop := fun v Rs => ∃ A c, v = .slice A xs.length c ∧ Rs = [own encE 8 65 A c xs]
set_option maxHeartbeats 4000000 in
theorem batch_of (A : Option Addr) (c : Nat) (l : List EventM) (mv : Value) (st : Int → Int) (f t : SnM) (o : ByteArray) (w0 : World) (hr : RdW w0 A (l.flatMap encE)) (hl : l.length ≤ 10000) (hst : StOk w0 mv st) (hf : f.rd w0) (ht : t.rd w0) :
    Calls Tryz.prog 99 #[.slice A l.length c, mv, f.v, t.v, .string o] w0 fun e w' => ∃ v Rs', e = .returned v ∧ (∃ ys, Srt (l.filter (bofP st f t o)) ys ∧ rowEQ ys v Rs') ∧ Mod [heapOf w0] Rs' w' ∧ Oth w0 w' := by
  refine enterN (tab := tab) Tryz.func99 rfl Tryz.ntmps99 rfl (args := [_, _, _, _, _]) rfl (Mod.start w0) ?_
  refine VC_sound tabOk 100 ?_
  intro b7 _
  intro b8 _
  refine Go_loop (σ := Nat × Option Addr × Nat) (fun s => [(0, .v (.slice A l.length c)), (1, .v mv), (4, .v (.string o)), (7, .v (.pointer (some ⟨b7, 0, none⟩))), (8, .v (.pointer (some ⟨b8, 0, none⟩))), (11, .v (.slice s.2.1 ((l.take s.1).filter (bofP st f t o)).length s.2.2)), (15, .v (.slice A l.length c)), (16, .v (.int .i64 l.length)), (17, .v (.int .i64 s.1))])
    (fun s => [own encE 8 65 s.2.1 s.2.2 ((l.take s.1).filter (bofP st f t o)), .blk b8 42 [.int .i64 t.mx, .slice t.A t.op.length t.c], .blk b7 42 [.int .i64 f.mx, .slice f.A f.op.length f.c]]) (fun s => s.1 ≤ l.length) (fun s => l.length - s.1) (0, none, 0) (Nat.zero_le _) ⟨rfl, rfl, rfl, rfl, rfl, rfl, rfl, rfl, rfl, trivial⟩ (fun _ h => h.own_nil none) ?_
  rintro ⟨i, A', c'⟩ hi
  dsimp only at hi ⊢
  have hfl := List.length_filter_le (bofP st f t o) (l.take i)
  rw [List.length_take] at hfl
  by_cases hlt : i < l.length
  · obtain ⟨b, of, rfl⟩ := RdW.some encE_is hr (ne_nil_of_lt hlt)
    obtain ⟨e, hge⟩ : ∃ e, l[i]? = some e := ⟨_, List.getElem?_eq_getElem hlt⟩
    have hstep : (l.take (i + 1)).filter (bofP st f t o) = (l.take i).filter (bofP st f t o) ++ if bofP st f t o e = true then [e] else [] := by
      rw [List.take_add_one, hge, List.filter_append]
      congr 1
      simp only [Option.toList_some, List.filter_cons, List.filter_nil]
    have skip : bofP st f t o e = false → (l.take (i + 1)).filter (bofP st f t o) = (l.take i).filter (bofP st f t o) := fun h => by rw [hstep, h]; simp
    refine VC_sound tabOk 100 ?_
    refine ⟨fun _ => ?_, fun h => by first | (simp at h; done) | (simp at h; omega) | (simp_all; done)⟩
    refine ⟨⟨by omega, by omega⟩, ?_⟩
    (repeat (first | refine Or.inl ⟨rfl, rfl, ?_⟩ | refine Or.inl ⟨rfl, ?_⟩ | refine Or.inr ?_))
    refine Go_ops rfl (OpTo_loadRow tabOk encE_is (mkE e) rfl rfl rfl rfl rfl (fun h => by first | rfl | cases h) (fun w hm _ => hr.mod hm) hge (by simp only [addA]; rfl) ?_)
    refine VC_sound tabOk 100 ?_
    intro b13 _
    (repeat (first | refine Or.inl ⟨rfl, rfl, ?_⟩ | refine Or.inl ⟨rfl, ?_⟩ | refine Or.inr ?_))
    refine Go_ops rfl (OpTo_pcall (v := .int .u8 (st e.tx)) rfl rfl rfl rfl rfl (by kernel_rfl) (fun w hm _ => hst w hm.old e.tx) ?_)
    refine VC_sound tabOk 100 ?_
    refine ⟨fun h1 => ?_, fun h1 => ?_⟩
    · (repeat (first | refine Or.inl ⟨rfl, rfl, ?_⟩ | refine Or.inl ⟨rfl, ?_⟩ | refine Or.inr ?_))
      refine Go_ops rfl (OpTo_pcall (v := .bool (dueB e o)) rfl rfl rfl rfl rfl (by kernel_rfl) (fun w hm _ => event_due e o w) ?_)
      refine VC_sound tabOk 100 ?_
      refine ⟨fun h2 => ?_, fun h2 => ?_⟩
      · (repeat (first | refine Or.inl ⟨rfl, rfl, ?_⟩ | refine Or.inl ⟨rfl, ?_⟩ | refine Or.inr ?_))
        refine Go_ops rfl (OpTo_pcall (v := .bool (t.sees e.tx)) rfl rfl rfl rfl rfl (by kernel_rfl) (fun w hm _ => snap_sees t.mx t.A t.c t.op e.tx w (ht.1.mod hm) (by omega)) ?_)
        refine VC_sound tabOk 100 ?_
        refine ⟨fun h3 => ?_, fun h3 => ?_⟩
        · (repeat (first | refine Or.inl ⟨rfl, rfl, ?_⟩ | refine Or.inl ⟨rfl, ?_⟩ | refine Or.inr ?_))
          refine Go_ops rfl (OpTo_pcall (v := .bool (f.sees e.tx)) rfl rfl rfl rfl rfl (by kernel_rfl) (fun w hm _ => snap_sees f.mx f.A f.c f.op e.tx w (hf.1.mod hm) (by omega)) ?_)
          refine VC_sound tabOk 100 ?_
          refine ⟨fun h4 => ?_, fun h4 => ?_⟩
          · have hP : bofP st f t o e = true := by simp [bofP, h1, h2, h3, h4]
            (repeat (first | refine Or.inl ⟨rfl, rfl, ?_⟩ | refine Or.inl ⟨rfl, ?_⟩ | refine Or.inr ?_))
            intro b47 _
            show Go _ _ _ _
            refine Go_ops rfl (OpTo_append tabOk encE_is (ys := [e]) (i := 2) rfl rfl rfl rfl rfl rfl rfl rfl rfl rfl rfl (fun w hm _ => hm.blk_rd (i := 0) rfl) (by simp; omega) (by simp; omega) (fun A2 c2 => ?_))
            refine VC_sound tabOk 100 ?_
            refine ⟨_, wrap_i64 (n := (i : Int) + 1) (by omega) (by omega), ?_⟩
            rw [hP, if_pos rfl] at hstep
            refine Go_fin (i + 1, A2, c2) (by dsimp only; omega) (by dsimp only; omega) ⟨rfl, rfl, rfl, rfl, rfl, ?_, rfl, rfl, rfl, trivial⟩ (fun _ h => by dsimp only; rw [hstep]; exact h.sel [2, 3, 4] rfl)
            dsimp only; rw [hstep, List.length_append]; rfl
          · have hP := skip (by simp [bofP, h1, h2, h3]; simpa using h4)
            refine ⟨_, wrap_i64 (n := (i : Int) + 1) (by omega) (by omega), ?_⟩
            refine Go_fin (i + 1, A', c') (by dsimp only; omega) (by dsimp only; omega) ⟨rfl, rfl, rfl, rfl, rfl, ?_, rfl, rfl, rfl, trivial⟩ (fun _ h => by dsimp only; rw [hP]; exact h.sel [1, 2, 3] rfl)
            dsimp only; rw [hP]
        · have hP := skip (by simp [bofP, h1, h2]; intro h; rw [h] at h3; cases h3)
          refine ⟨_, wrap_i64 (n := (i : Int) + 1) (by omega) (by omega), ?_⟩
          refine Go_fin (i + 1, A', c') (by dsimp only; omega) (by dsimp only; omega) ⟨rfl, rfl, rfl, rfl, rfl, ?_, rfl, rfl, rfl, trivial⟩ (fun _ h => by dsimp only; rw [hP]; exact h.sel [1, 2, 3] rfl)
          dsimp only; rw [hP]
      · have hP := skip (by simp [bofP, h1]; intro h; rw [h] at h2; cases h2)
        refine ⟨_, wrap_i64 (n := (i : Int) + 1) (by omega) (by omega), ?_⟩
        refine Go_fin (i + 1, A', c') (by dsimp only; omega) (by dsimp only; omega) ⟨rfl, rfl, rfl, rfl, rfl, ?_, rfl, rfl, rfl, trivial⟩ (fun _ h => by dsimp only; rw [hP]; exact h.sel [1, 2, 3] rfl)
        dsimp only; rw [hP]
    · have hP := skip (by simp [bofP]; intro h; simp [h] at h1)
      refine ⟨_, wrap_i64 (n := (i : Int) + 1) (by omega) (by omega), ?_⟩
      refine Go_fin (i + 1, A', c') (by dsimp only; omega) (by dsimp only; omega) ⟨rfl, rfl, rfl, rfl, rfl, ?_, rfl, rfl, rfl, trivial⟩ (fun _ h => by dsimp only; rw [hP]; exact h.sel [1, 2, 3] rfl)
      dsimp only; rw [hP]
  refine VC_sound tabOk 100 ?_
  refine ⟨fun h => by first | (simp at h; done) | (simp at h; omega) | (simp_all; done), fun _ => ?_⟩
  have he : i = l.length := by omega
  subst he
  rw [List.take_length] at hfl ⊢
  show Go _ _ _ _
  refine Go_ops rfl (OpTo_mcall [own encE 8 65 A' c' (l.filter (bofP st f t o))] [.blk b8 42 [.int .i64 t.mx, .slice t.A t.op.length t.c], .blk b7 42 [.int .i64 f.mx, .slice f.A f.op.length f.c]] (List.Perm.of_eq rfl) rfl rfl rfl rfl rfl (by kernel_rfl) (fun w hb hm hio hsp k => sl_sortStable_E ordI evCmp_ok 155 #[] #[] (by kernel_rfl) batch_ofC A' c' (l.filter (bofP st f t o)) w _ k (by omega)) ?_)
  rintro _ _ ⟨rfl, ys, h1, h2, h3, rfl⟩
  refine VC_sound tabOk 100 ?_
  exact ⟨_, ⟨ys, ⟨h1, h2, h3⟩, A', c', by rw [h3]; rfl, rfl⟩, fun _ _ h => h.sel [0] rfl⟩

/-! ### Needs, Free -/
def encS : SnM → List Value := fun s => [.int .i64 s.mx, .slice s.A s.op.length s.c]
theorem encS_is : IsEnc encS 2 := ⟨fun _ => rfl, fun x v hv => by simp [encS] at hv; rcases hv with rfl | rfl <;> rfl, by decide⟩
def zeroS : SnM := ⟨0, none, 0, []⟩
set_option maxHeartbeats 400000 in
theorem sl_indexFunc_S (A : Option Addr) (c : Nat) (zs : List SnM) (f : FuncId) (first cap : Array Value) (p : SnM → Bool) (w0 : World) (hA : RdW w0 A (zs.flatMap encS)) (hn : zs.length ≤ 4611686018427387904) (hf : callable Tryz.prog f = true) (hp : Answers Tryz.prog w0 f first cap SnM.v p zs) :
    Calls Tryz.prog 223 #[.slice A zs.length c, .func (.func f) first cap] w0 fun e w' => e = .returned (.int .i64 (idxF p zs)) ∧ BelowD w0.heap.size w0 w' := by
  refine enterP (tab := tab) Tryz.func223 rfl Tryz.ntmps223 rfl (args := [_, _]) rfl ?_
  refine VC_sound tabOk 100 ?_
  refine Go_loop (σ := Nat) (fun i => [(0, .v (.slice A zs.length c)), (1, .v (.func (.func f) first cap)), (7, .v (.int .i64 zs.length)), (8, .v (.int .i64 i))]) (fun _ => []) (fun i => i ≤ zs.length ∧ ∀ j (h : j < zs.length), j < i → p zs[j] = false) (fun i => zs.length - i) 0 ⟨Nat.zero_le _, fun _ _ h => by omega⟩ ⟨rfl, rfl, rfl, rfl, trivial⟩ (fun _ h => h) ?_
  intro i ⟨hi, hne⟩
  refine VC_sound tabOk 100 ?_
  refine ⟨fun hb => ?_, fun hb => ?_⟩
  · have hlt : i < zs.length := by simpa using hb
    obtain ⟨b, o, rfl⟩ := RdW.some encS_is hA (ne_nil_of_lt hlt)
    refine ⟨⟨by omega, by omega⟩, ?_⟩
    refine Go_ops rfl (OpTo_loadRow tabOk encS_is (SnM.v zs[i]) rfl rfl rfl rfl rfl (fun h => by first | rfl | cases h) (fun w hm _ => hA.mod hm) (List.getElem?_eq_getElem hlt) rfl ?_)
    refine VC_sound tabOk 100 ?_
    refine Go_ops rfl (OpTo_pcall (v := .bool (p zs[i])) (av := first.toList ++ [SnM.v zs[i]] ++ cap.toList) rfl rfl rfl rfl rfl hf (fun w hm hio => hp zs[i] (List.getElem_mem hlt) w (hm.below hio)) ?_)
    refine VC_sound tabOk 100 ?_
    refine ⟨fun hb => ?_, fun hb => ?_⟩
    · exact congrArg (Value.int .i64) (idxF_at p zs i hlt hb hne).symm
    · refine ⟨_, wrap_i64 (n := (i : Int) + 1) (by omega) (by omega), ?_⟩
      refine Go_fin (i + 1) ⟨by omega, fun j h hj => ?_⟩ (by omega) ⟨rfl, rfl, rfl, rfl, trivial⟩ (fun _ h => h)
      by_cases e : j = i
      · subst e; exact hb
      · exact hne j h (by omega)
  · have hge : ¬ i < zs.length := by simpa using hb
    exact congrArg (Value.int .i64) (idxF_none p zs fun j h => hne j h (by omega)).symm

set_option maxHeartbeats 400000 in
theorem sl_containsFunc_S (A : Option Addr) (c : Nat) (zs : List SnM) (f : FuncId) (first cap : Array Value) (p : SnM → Bool) (w0 : World) (hA : RdW w0 A (zs.flatMap encS)) (hn : zs.length ≤ 4611686018427387904) (hf : callable Tryz.prog f = true) (hp : Answers Tryz.prog w0 f first cap SnM.v p zs) :
    Calls Tryz.prog 188 #[.slice A zs.length c, .func (.func f) first cap] w0 fun e w' => e = .returned (.bool (zs.any p)) ∧ BelowD w0.heap.size w0 w' := by
  refine enterP (tab := tab) Tryz.func188 rfl Tryz.ntmps188 rfl (args := [_, _]) rfl ?_
  refine VC_sound tabOk 100 ?_
  refine Go_ops rfl (OpTo_pcall rfl rfl rfl rfl rfl (by kernel_rfl) (fun w hm hio => sl_indexFunc_S A c zs f first cap p w (hA.mod hm) hn hf (hp.below (hm.below hio))) ?_)
  refine VC_sound tabOk 100 ?_
  exact congrArg Value.bool (idxF_any p zs)



def needsB (st : Int → Int) (sn : List SnM) (e : EventM) : Bool := if st e.tx = 1 then true else if st e.tx = 2 then sn.any fun x => !x.sees e.tx else false
theorem SnM.rd_old {s : SnM} {w0 w : World} (h : s.rd w0) (hk : ∀ n, n < w0.heap.size → w.heap[n]? = w0.heap[n]?) : s.rd w := ⟨RdW.old h.1 hk, h.2⟩

theorem batch_needsC (b3 : Nat) (e : EventM) (x : SnM) (w0 : World) (hb : w0.heap[b3]? = some (.cells (encE e).toArray 65 (0, 0))) (hx : x.rd w0) :
    Calls Tryz.prog 189 #[x.v, .pointer (some ⟨b3, 0, none⟩)] w0 fun r w' => r = .returned (.bool (!x.sees e.tx)) ∧ BelowD w0.heap.size w0 w' := by
  refine enterP (tab := tab) Tryz.func189 rfl Tryz.ntmps189 rfl (args := [_, _]) rfl ?_
  refine VC_sound tabOk 100 ?_
  intro b2 _
  (repeat (first | refine Or.inl ⟨rfl, rfl, ?_⟩ | refine Or.inl ⟨rfl, ?_⟩ | refine Or.inr ?_))
  refine Go_ops rfl (OpTo_loadBlk tabOk (cs := encE e) (.int .i64 e.tx) rfl rfl rfl (fun w hm _ => hm.block_old hb) rfl ?_)
  refine VC_sound tabOk 100 ?_
  refine Go_ops rfl (OpTo_pcall (v := .bool (x.sees e.tx)) rfl rfl rfl rfl rfl (by kernel_rfl) (fun w hm _ => snap_sees x.mx x.A x.c x.op e.tx w (hx.1.mod hm) (by have := hx.2; omega)) ?_)
  refine VC_sound tabOk 100 ?_
  rfl

set_option maxHeartbeats 1000000 in
theorem batch_needs (e : EventM) (mp : Option Addr) (st : Int → Int) (As : Option Addr) (cs : Nat) (sn : List SnM) (w0 : World) (hst : StOk w0 (.pointer mp) st) (hs : RdW w0 As (sn.flatMap encS)) (hn : sn.length ≤ 10000) (hx : ∀ x ∈ sn, x.rd w0) :
    Calls Tryz.prog 167 #[mkE e, .pointer mp, .slice As sn.length cs] w0 fun r w' => r = .returned (.bool (needsB st sn e)) ∧ BelowD w0.heap.size w0 w' := by
  refine enterP (tab := tab) Tryz.func167 rfl Tryz.ntmps167 rfl (args := [_, _, _]) rfl ?_
  refine VC_sound tabOk 100 ?_
  intro b3 _
  (repeat (first | refine Or.inl ⟨rfl, rfl, ?_⟩ | refine Or.inl ⟨rfl, ?_⟩ | refine Or.inr ?_))
  refine Go_ops rfl (OpTo_pcall (v := .int .u8 (st e.tx)) rfl rfl rfl rfl rfl (by kernel_rfl) (fun w hm _ => hst w hm.old e.tx) ?_)
  refine VC_sound tabOk 100 ?_
  refine ⟨fun h1 => ?_, fun h1 => ?_⟩
  · exact congrArg Value.bool (by rw [needsB, if_pos (by simpa using h1)])
  · refine ⟨fun h2 => ?_, fun h2 => ?_⟩
    · refine Go_ops rfl (OpTo_pcall (v := .bool (sn.any fun x => !x.sees e.tx)) rfl rfl rfl rfl rfl (by kernel_rfl) (fun w hm hio => sl_containsFunc_S As cs sn 189 #[] #[.pointer (some ⟨b3, 0, none⟩)] (fun x => !x.sees e.tx) w (hs.mod hm) (by omega) (by kernel_rfl)
        (fun x hxx w2 hb2 => batch_needsC b3 e x w2 (blk_below hb2 (hm.blk_at (i := 0) rfl)) (SnM.rd_old (hx x hxx) fun n hn => by rw [hb2.block n (Nat.lt_of_lt_of_le hn hio.size), hm.old n hn]))) ?_)
      refine VC_sound tabOk 100 ?_
      exact congrArg Value.bool (by rw [needsB, if_neg (by simpa using h1), if_pos (by simpa using h2)])
    · exact congrArg Value.bool (by rw [needsB, if_neg (by simpa using h1), if_neg (by simpa using h2)])

theorem batch_freeC (b4 b5 : Nat) (e : EventM) (mp : Option Addr) (st : Int → Int) (As : Option Addr) (cs : Nat) (sn : List SnM) (w0 : World) (hb4 : w0.heap[b4]? = some (.cells #[.pointer mp] 29 (0, 0))) (hb5 : w0.heap[b5]? = some (.cells #[.slice As sn.length cs] 159 (0, 0))) (hst : StOk w0 (.pointer mp) st) (hs : RdW w0 As (sn.flatMap encS)) (hn : sn.length ≤ 10000) (hx : ∀ x ∈ sn, x.rd w0) :
    Calls Tryz.prog 166 #[mkE e, .pointer (some ⟨b4, 0, none⟩), .pointer (some ⟨b5, 0, none⟩)] w0 fun r w' => r = .returned (.bool (needsB st sn e)) ∧ BelowD w0.heap.size w0 w' := by
  refine enterP (tab := tab) Tryz.func166 rfl Tryz.ntmps166 rfl (args := [_, _, _]) rfl ?_
  refine VC_sound tabOk 100 ?_
  intro b3 _
  (repeat (first | refine Or.inl ⟨rfl, rfl, ?_⟩ | refine Or.inl ⟨rfl, ?_⟩ | refine Or.inr ?_))
  refine Go_ops rfl (OpTo_loadBlk tabOk (cs := [.pointer mp]) (.pointer mp) rfl rfl rfl (fun w hm _ => hm.block_old hb4) rfl ?_)
  refine VC_sound tabOk 100 ?_
  (repeat (first | refine Or.inl ⟨rfl, rfl, ?_⟩ | refine Or.inl ⟨rfl, ?_⟩ | refine Or.inr ?_))
  refine Go_ops rfl (OpTo_loadBlk tabOk (cs := [.slice As sn.length cs]) (.slice As sn.length cs) rfl rfl rfl (fun w hm _ => hm.block_old hb5) rfl ?_)
  refine VC_sound tabOk 100 ?_
  refine Go_ops rfl (OpTo_pcall (v := .bool (needsB st sn e)) rfl rfl rfl rfl rfl (by kernel_rfl) (fun w hm hio => batch_needs e mp st As cs sn w (hst.old hio.size hm.old) (hs.mod hm) hn (fun x hxx => SnM.rd_old (hx x hxx) hm.old)) ?_)
  refine VC_sound tabOk 100 ?_
  rfl

def freeB (st : Int → Int) (sn : List SnM) (l : List EventM) : Bool := !l.any (needsB st sn)
set_option maxHeartbeats 1000000 in
theorem batch_free (A : Option Addr) (c : Nat) (l : List EventM) (mp : Option Addr) (st : Int → Int) (As : Option Addr) (cs : Nat) (sn : List SnM) (w0 : World) (hr : RdW w0 A (l.flatMap encE)) (hl : l.length ≤ 10000) (hst : StOk w0 (.pointer mp) st) (hs : RdW w0 As (sn.flatMap encS)) (hn : sn.length ≤ 10000) (hx : ∀ x ∈ sn, x.rd w0) :
    Calls Tryz.prog 107 #[.slice A l.length c, .pointer mp, .slice As sn.length cs] w0 fun r w' => r = .returned (.bool (freeB st sn l)) ∧ BelowD w0.heap.size w0 w' := by
  refine enterP (tab := tab) Tryz.func107 rfl Tryz.ntmps107 rfl (args := [_, _, _]) rfl ?_
  refine VC_sound tabOk 100 ?_
  intro b4 _
  intro b5 _
  refine Go_ops rfl (OpTo_pcall (v := .bool (l.any (needsB st sn))) rfl rfl rfl rfl rfl (by kernel_rfl) (fun w hm hio => sl_containsFunc_E A c l 166 #[] #[.pointer (some ⟨b4, 0, none⟩), .pointer (some ⟨b5, 0, none⟩)] (needsB st sn) w (hr.mod hm) (by omega) (by kernel_rfl)
    (fun e _ w2 hb2 => by
      have hold : ∀ n, n < w0.heap.size → w2.heap[n]? = w0.heap[n]? := fun n hn => by rw [hb2.block n (Nat.lt_of_lt_of_le hn hio.size), hm.old n hn]
      exact batch_freeC b4 b5 e mp st As cs sn w2 (blk_below hb2 (hm.blk_at (i := 1) rfl)) (blk_below hb2 (hm.blk_at (i := 0) rfl)) (hst.old (Nat.le_trans hio.size hb2.size) hold) (hs.old hold) hn (fun x hxx => SnM.rd_old (hx x hxx) hold))) ?_)
  refine VC_sound tabOk 100 ?_
  rfl
end Go.Proofs.YthpcahgdobnljaaGreat.Bt
