/- What the functions of package heap do. -/
import Derived.Test.YtbhlkninmbafcaaGreatTxn
import Derived.Test.YtbhlkninmbafcaaGreatSnap
import Derived.Test.YtbhlkninmbafcaaGreatRxStab
set_option maxRecDepth 100000
set_option autoImplicit false
set_option linter.unusedVariables false
set_option linter.unusedSimpArgs false
namespace Go.Proofs.YtbhlkninmbafcaaGreat
open Go.RX Go Go.RowKit


/-- A version. -/
structure VerM where
  key : Int
  text : ByteArray
  born : Int
  died : Int
def encV : VerM → List Value := fun x => [.int .i64 x.key, .string x.text, .int .i64 x.born, .int .i64 x.died]
theorem encV_is : IsEnc encV 4 := ⟨fun _ => rfl, fun x v hv => by simp [encV] at hv; rcases hv with rfl | rfl | rfl | rfl <;> rfl, by decide⟩
abbrev mkV (x : VerM) : Value := .agg #[.int .i64 x.key, .string x.text, .int .i64 x.born, .int .i64 x.died]
def zeroV : VerM := ⟨0, ⟨#[]⟩, 0, 0⟩
/-- A view. -/
structure VwM where
  mx : Int
  S : Option Addr
  d : Nat
  op : List Int
  own : Int
abbrev VwM.cs (v : VwM) : List Value := [.int .i64 v.mx, .slice v.S v.op.length v.d, .int .i64 v.own]
abbrev VwM.v (v : VwM) : Value := .agg #[.int .i64 v.mx, .slice v.S v.op.length v.d, .int .i64 v.own]

abbrev hpV (m : Nat) (A : Option Addr) (n c : Nat) : List Value := [.pointer (some ⟨m, 0, none⟩), .slice A n c]
/-- A heap that may be read. -/
structure HpAt (w : World) (h m b1 b2 : Nat) (s : TxS) (A : Option Addr) (c : Nat) (vs : List VerM) : Prop where
  blk : w.heap[h]? = some (.cells (hpV m A vs.length c).toArray 108 (0, 0))
  mgr : w.heap[m]? = some (.cells #[.int .i64 s.next, .map (some b1), .map (some b2)] 75 (0, 0))
  tO : MpAt KI Value.bool w b1 (tm s.O)
  tD : MpAt KI Value.bool w b2 (tm s.D)
  rd : RdW w A (vs.flatMap encV)
theorem HpAt.old {w w' : World} {h m b1 b2 : Nat} {s : TxS} {A : Option Addr} {c : Nat} {vs : List VerM} (hp : HpAt w h m b1 b2 s A c vs) (hk : ∀ n, n < w.heap.size → w'.heap[n]? = w.heap[n]?) : HpAt w' h m b1 b2 s A c vs :=
  ⟨by rw [hk h (Array.getElem?_eq_some_iff.1 hp.blk).1]; exact hp.blk, by rw [hk m (Array.getElem?_eq_some_iff.1 hp.mgr).1]; exact hp.mgr, hp.tO.old hk, hp.tD.old hk, hp.rd.old hk⟩

/-- Does a view see what a transaction did? -/
def didP (st : Int → Int) (v : VwM) (x : Int) : Bool := decide (0 < x) && (decide (x = v.own) || (decide (st x = 2) && snSees v.mx v.op x))
def seesP (st : Int → Int) (v : VwM) (x : VerM) : Bool := didP st v x.born && !didP st v x.died

set_option maxHeartbeats 1000000 in
theorem hp_did (h m b1 b2 : Nat) (s : TxS) (A : Option Addr) (c : Nat) (vs : List VerM) (v : VwM) (x : Int) (w0 : World) (hp : HpAt w0 h m b1 b2 s A c vs) (hS : RdI w0 v.S v.op) (hl : v.op.length ≤ 1000000) :
    Calls Tryz.prog 75 #[.pointer (some ⟨h, 0, none⟩), v.v, .int .i64 x] w0 fun e w' => e = .returned (.bool (didP (stE s) v x)) ∧ BelowD w0.heap.size w0 w' := by
  refine enterP (tab := tab) Tryz.func75 rfl Tryz.ntmps75 rfl (args := [_, _, _]) rfl ?_
  refine VC_sound tabOk 100 ?_
  intro b4 _
  refine ⟨fun h1 => ?_, fun h1 => ?_⟩
  rotate_left
  · exact congrArg Value.bool (by simp only [didP, h1, Bool.false_and])
  (repeat (first | refine Or.inl ⟨rfl, rfl, ?_⟩ | refine Or.inl ⟨rfl, ?_⟩ | refine Or.inr ?_))
  refine ⟨fun h2 => ?_, fun h2 => ?_⟩
  · exact congrArg Value.bool (by simp only [didP, h1, h2, Bool.true_and, Bool.true_or])
  refine Or.inr ?_
  refine Go_ops rfl (OpTo_loadBlk tabOk (cs := hpV m A vs.length c) (.pointer (some ⟨m, 0, none⟩)) rfl rfl rfl (fun w hm _ => hm.block_old hp.blk) rfl ?_)
  refine VC_sound tabOk 100 ?_
  refine Go_ops rfl (OpTo_pcall (v := .int .u8 (stE s x)) rfl rfl rfl rfl rfl (by kernel_rfl) (fun w hm _ => by
    have hk : ∀ n, n < w0.heap.size → w.heap[n]? = w0.heap[n]? := fun n hn => hm.old n hn
    have := hp.old hk
    exact txn_state_p m b1 b2 s x w this.mgr this.tO this.tD) ?_)
  refine VC_sound tabOk 100 ?_
  refine ⟨fun h3 => ?_, fun h3 => ?_⟩
  · (repeat (first | refine Or.inl ⟨rfl, rfl, ?_⟩ | refine Or.inl ⟨rfl, ?_⟩ | refine Or.inr ?_))
    refine Go_ops rfl (OpTo_pcall (v := .bool (snSees v.mx v.op x)) rfl rfl rfl rfl rfl (by kernel_rfl) (fun w hm _ => snap_sees v.mx v.S v.d v.op x w (hS.mod hm) (by omega)) ?_)
    refine VC_sound tabOk 100 ?_
    exact congrArg Value.bool (by simp only [didP, h1, h2, h3, Bool.true_and, Bool.false_or])
  · exact congrArg Value.bool (by simp only [didP, h1, h2, h3, Bool.true_and, Bool.false_and, Bool.or_self])

set_option maxHeartbeats 1000000 in
theorem hp_sees (h m b1 b2 : Nat) (s : TxS) (A : Option Addr) (c : Nat) (vs : List VerM) (v : VwM) (x : VerM) (w0 : World) (hp : HpAt w0 h m b1 b2 s A c vs) (hS : RdI w0 v.S v.op) (hl : v.op.length ≤ 1000000) :
    Calls Tryz.prog 55 #[.pointer (some ⟨h, 0, none⟩), v.v, mkV x] w0 fun e w' => e = .returned (.bool (seesP (stE s) v x)) ∧ BelowD w0.heap.size w0 w' := by
  refine enterP (tab := tab) Tryz.func55 rfl Tryz.ntmps55 rfl (args := [_, _, _]) rfl ?_
  refine VC_sound tabOk 100 ?_
  intro b4 _ b5 _
  (repeat (first | refine Or.inl ⟨rfl, rfl, ?_⟩ | refine Or.inl ⟨rfl, ?_⟩ | refine Or.inr ?_))
  (repeat (first | refine Or.inl ⟨rfl, rfl, ?_⟩ | refine Or.inl ⟨rfl, ?_⟩ | refine Or.inr ?_))
  refine Go_ops rfl (OpTo_pcall (v := .bool (didP (stE s) v x.born)) rfl rfl rfl rfl rfl (by kernel_rfl) (fun w hm _ => hp_did h m b1 b2 s A c vs v x.born w (hp.old fun n hn => hm.old n hn) (hS.mod hm) hl) ?_)
  refine VC_sound tabOk 100 ?_
  refine ⟨fun h1 => ?_, fun h1 => ?_⟩
  rotate_left
  · exact congrArg Value.bool (by simp only [seesP, h1, Bool.false_and])
  (repeat (first | refine Or.inl ⟨rfl, rfl, ?_⟩ | refine Or.inl ⟨rfl, ?_⟩ | refine Or.inr ?_))
  (repeat (first | refine Or.inl ⟨rfl, rfl, ?_⟩ | refine Or.inl ⟨rfl, ?_⟩ | refine Or.inr ?_))
  refine Go_ops rfl (OpTo_pcall (v := .bool (didP (stE s) v x.died)) rfl rfl rfl rfl rfl (by kernel_rfl) (fun w hm _ => hp_did h m b1 b2 s A c vs v x.died w (hp.old fun n hn => hm.old n hn) (hS.mod hm) hl) ?_)
  refine VC_sound tabOk 100 ?_
  exact congrArg Value.bool (by simp only [seesP, h1, Bool.true_and])

set_option maxHeartbeats 400000 in
theorem sl_indexFunc_V (A : Option Addr) (c : Nat) (zs : List VerM) (f : FuncId) (first cap : Array Value) (p : VerM → Bool) (w0 : World) (hA : RdW w0 A (zs.flatMap encV)) (hn : zs.length ≤ 4611686018427387904) (hf : callable Tryz.prog f = true) (hp : Answers Tryz.prog w0 f first cap mkV p zs) :
    Calls Tryz.prog 73 #[.slice A zs.length c, .func (.func f) first cap] w0 fun e w' => e = .returned (.int .i64 (idxF p zs)) ∧ BelowD w0.heap.size w0 w' := by
  refine enterP (tab := tab) Tryz.func73 rfl Tryz.ntmps73 rfl (args := [_, _]) rfl ?_
  refine VC_sound tabOk 100 ?_
  refine Go_loop (σ := Nat) (fun i => [(0, .v (.slice A zs.length c)), (1, .v (.func (.func f) first cap)), (7, .v (.int .i64 zs.length)), (8, .v (.int .i64 i))]) (fun _ => []) (fun i => i ≤ zs.length ∧ ∀ j (h : j < zs.length), j < i → p zs[j] = false) (fun i => zs.length - i) 0 ⟨Nat.zero_le _, fun _ _ h => by omega⟩ ⟨rfl, rfl, rfl, rfl, trivial⟩ (fun _ h => h) ?_
  intro i ⟨hi, hne⟩
  refine VC_sound tabOk 100 ?_
  refine ⟨fun hb => ?_, fun hb => ?_⟩
  · have hlt : i < zs.length := by simpa using hb
    obtain ⟨b, o, rfl⟩ := RdW.some encV_is hA (ne_nil_of_lt hlt)
    refine ⟨⟨by omega, by omega⟩, ?_⟩
    refine Go_ops rfl (OpTo_loadRow tabOk encV_is (mkV zs[i]) rfl rfl rfl rfl rfl (fun h => by first | rfl | cases h) (fun w hm _ => hA.mod hm) (List.getElem?_eq_getElem hlt) rfl ?_)
    refine VC_sound tabOk 100 ?_
    refine Go_ops rfl (OpTo_pcall (v := .bool (p zs[i])) (av := first.toList ++ [mkV zs[i]] ++ cap.toList) rfl rfl rfl rfl rfl hf (fun w hm hio => hp zs[i] (List.getElem_mem hlt) w (hm.below hio)) ?_)
    refine VC_sound tabOk 100 ?_
    refine ⟨fun hb => ?_, fun hb => ?_⟩
    · exact congrArg (Value.int .i64) (idxF_at p zs i hlt hb hne).symm
    · refine ⟨_, wrap_i64 (n := (i : Int) + 1) (by omega) (by omega), ?_⟩
      refine Go_fin (i + 1) ⟨by omega, fun j h hj => ?_⟩ (by omega) ⟨rfl, rfl, rfl, rfl, trivial⟩ (fun _ h => h)
      by_cases e : j = i
      · subst e; exact hb
      · exact hne j h (by omega)
  · have hge : ¬ i < zs.length := by simpa using hb
    exact congrArg (Value.int .i64) (idxF_none p zs fun j h => hne j h (by omega)).symm

set_option maxHeartbeats 400000 in
theorem sl_containsFunc_V (A : Option Addr) (c : Nat) (zs : List VerM) (f : FuncId) (first cap : Array Value) (p : VerM → Bool) (w0 : World) (hA : RdW w0 A (zs.flatMap encV)) (hn : zs.length ≤ 4611686018427387904) (hf : callable Tryz.prog f = true) (hp : Answers Tryz.prog w0 f first cap mkV p zs) :
    Calls Tryz.prog 49 #[.slice A zs.length c, .func (.func f) first cap] w0 fun e w' => e = .returned (.bool (zs.any p)) ∧ BelowD w0.heap.size w0 w' := by
  refine enterP (tab := tab) Tryz.func49 rfl Tryz.ntmps49 rfl (args := [_, _]) rfl ?_
  refine VC_sound tabOk 100 ?_
  refine Go_ops rfl (OpTo_pcall rfl rfl rfl rfl rfl (by kernel_rfl) (fun w hm hio => sl_indexFunc_V A c zs f first cap p w (hA.mod hm) hn hf (hp.below (hm.below hio))) ?_)
  refine VC_sound tabOk 100 ?_
  exact congrArg Value.bool (idxF_any p zs)

set_option maxHeartbeats 1000000 in
theorem sl_delete_V (A : Option Addr) (c : Nat) (xs : List VerM) (f : FuncId) (first cap : Array Value) (p : VerM → Bool) (w0 : World) (hfs : List PH) (hm : Mod hfs [own encV 4 113 A c xs] w0) (hn : xs.length ≤ 4611686018427387904) (hf : callable Tryz.prog f = true) (hp : AnswersM Tryz.prog hfs f first cap mkV p xs) :
    Calls Tryz.prog 65 #[.slice A xs.length c, .func (.func f) first cap] w0 fun e w' => ∃ v Rs', e = .returned v ∧ (v = .slice A (xs.filter fun x => !p x).length c ∧ Rs' = [own encV 4 113 A c (xs.filter fun x => !p x)]) ∧ Mod hfs Rs' w' ∧ Oth w0 w' := by
  have hcap := hm.own_le (i := 0) rfl
  refine enterN (tab := tab) Tryz.func65 rfl Tryz.ntmps65 rfl (args := [_, _]) rfl hm ?_
  refine VC_sound tabOk 100 ?_
  refine Go_ops rfl (OpTo_pcall (v := .int .i64 (idxF p xs)) rfl rfl rfl rfl rfl (by kernel_rfl) (fun w hm _ => sl_indexFunc_V A c xs f first cap p w (hm.own_rd (i := 0) rfl) hn hf (hp.answers hm)) ?_)
  refine VC_sound tabOk 100 ?_
  rcases idxF_spec p xs with ⟨h0, hall⟩ | ⟨i0, hi0, h0, hp0, hne0⟩
  · rw [h0]
    refine ⟨fun _ => ?_, fun h => nomatch h⟩
    have e : (xs.filter fun x => !p x) = xs := List.filter_eq_self.2 fun x hx => by simp [hall x hx]
    refine ⟨_, ⟨?_, ?_⟩, fun _ _ h => h⟩
    · rw [e]; rfl
    · rw [e]
  · rw [h0]
    refine ⟨fun h => ?_, fun _ => ?_⟩
    · have := of_decide_eq_true h; omega
    obtain ⟨hs0, hf0⟩ := Sift.start hi0 hp0 hne0
    refine ⟨_, wrap_i64 (n := (i0 : Int) + 1) (by omega) (by omega), ?_⟩
    obtain ⟨b, o, rfl⟩ := RdW.some encV_is (hm.own_rd (i := 0) rfl) (ne_nil_of_lt hi0)
    refine Go_loop (σ := Nat × List VerM) (fun s => [(0, .v (.slice (some ⟨b, o, none⟩) xs.length c)), (1, .v (.func (.func f) first cap)), (5, .v (.int .i64 (((xs.take s.1).filter fun x => !p x).length))), (6, .v (.int .i64 s.1))]) (fun s => [own encV 4 113 (some ⟨b, o, none⟩) c s.2])
      (fun s => Sift (fun x => !p x) xs s.2 s.1 ∧ ((xs.take s.1).filter fun x => !p x).length < s.1) (fun s => xs.length - s.1) (i0 + 1, xs) ⟨hs0, by simp only [hf0, List.length_take]; omega⟩ ⟨rfl, rfl, ?_, rfl, trivial⟩ (fun _ h => h) ?_
    · simp only [hf0, List.length_take, Nat.min_eq_left (Nat.le_of_lt hi0)]
    rintro ⟨j, ys⟩ ⟨hs, hlt0⟩
    simp only at hs hlt0
    dsimp only
    refine VC_sound tabOk 100 ?_
    refine ⟨fun h1 => ?_, fun h1 => ?_⟩
    · have hj : j < xs.length := by simpa using h1
      refine ⟨⟨by omega, by omega⟩, ?_⟩
      refine Go_ops rfl (OpTo_loadRow tabOk encV_is (mkV xs[j]) rfl rfl rfl rfl rfl (fun h => by first | rfl | cases h) (fun w hm _ => hm.own_rd (i := 0) rfl) (hs.at_ hj) rfl ?_)
      refine VC_sound tabOk 100 ?_
      intro b7 _
      (repeat (first | refine Or.inl ⟨rfl, rfl, ?_⟩ | refine Or.inl ⟨rfl, ?_⟩ | refine Or.inr ?_))
      refine Go_ops rfl (OpTo_pcall (v := .bool (p xs[j])) (av := first.toList ++ [mkV xs[j]] ++ cap.toList) rfl rfl rfl rfl rfl hf (fun w hm hio => hp xs[j] (List.getElem_mem hj) _ w hm) ?_)
      refine VC_sound tabOk 100 ?_
      refine ⟨fun h2 => ?_, fun h2 => ?_⟩
      · have hk := hs.keep hj (q := fun x => !p x) h2
        (repeat (first | refine Or.inl ⟨rfl, rfl, ?_⟩ | refine Or.inl ⟨rfl, ?_⟩ | refine Or.inr ?_))
        refine ⟨⟨by omega, by have := hs.len; omega⟩, ?_⟩
        (repeat (first | refine Or.inl ⟨rfl, rfl, ?_⟩ | refine Or.inl ⟨rfl, ?_⟩ | refine Or.inr ?_))
        show Go _ _ _ _
        refine Go_ops rfl (OpTo_storeRow tabOk encV_is (n := ((xs.take j).filter fun x => !p x).length) (s := .v (mkV xs[j])) (u := xs[j]) (xs := ys) 1 rfl rfl rfl rfl rfl rfl rfl (by have := hs.len; omega) rfl rfl ?_)
        refine VC_sound tabOk 100 ?_
        refine ⟨_, wrap_i64 (n := (((xs.take j).filter fun x => !p x).length : Int) + 1) (by omega) (by omega), ?_⟩
        refine ⟨_, wrap_i64 (n := (j : Int) + 1) (by omega) (by omega), ?_⟩
        refine Go_fin (j + 1, ys.set ((xs.take j).filter fun x => !p x).length xs[j]) ⟨hk.1, by simp only [hk.2, List.length_append, List.length_cons, List.length_nil]; omega⟩ (by simp; omega) ⟨rfl, rfl, ?_, rfl, trivial⟩ (fun _ h => h.sel [1] rfl)
        simp only [hk.2, List.length_append, List.length_cons, List.length_nil]; rfl
      · have hk := hs.skip hj (q := fun x => !p x) h2
        refine ⟨_, wrap_i64 (n := (j : Int) + 1) (by omega) (by omega), ?_⟩
        refine Go_fin (j + 1, ys) ⟨hk.1, by simp only [hk.2]; omega⟩ (by simp; omega) ⟨rfl, rfl, ?_, rfl, trivial⟩ (fun _ h => h.sel [1] rfl)
        simp only [hk.2]
    · have hj : ¬ j < xs.length := by simpa using h1
      obtain ⟨hd1, hd2⟩ := hs.done hj
      have hle := List.length_filter_le (fun x => !p x) xs
      have hyl := hs.len
      rw [hd2]
      refine ⟨⟨by omega, by omega⟩, ?_⟩
      show Go _ _ _ _
      refine Go_ops rfl (OpTo_clear tabOk encV_is (j := (xs.filter fun x => !p x).length) (m := xs.length - (xs.filter fun x => !p x).length) zeroV 0 rfl rfl rfl rfl rfl rfl rfl rfl (by omega) ?_)
      refine VC_sound tabOk 100 ?_
      refine ⟨⟨by omega, by omega⟩, ?_⟩
      refine ⟨_, ⟨rfl, rfl⟩, fun hfs w h => ?_⟩
      have h := h.own_take (i := 0) (n := (xs.filter fun x => !p x).length) encV_is (by simp; omega) rfl
      have e : (ys.take (xs.filter fun x => !p x).length ++ List.replicate (xs.length - (xs.filter fun x => !p x).length) zeroV).take (xs.filter fun x => !p x).length = xs.filter fun x => !p x := by
        rw [hd1]; simp
      rw [e] at h
      exact h


def findP (st : Int → Int) (v : VwM) (key : Int) (x : VerM) : Bool := decide (x.key = key) && seesP st v x
set_option maxHeartbeats 1000000 in
theorem hp_find1 (h m b1 b2 : Nat) (s : TxS) (A : Option Addr) (c : Nat) (vs : List VerM) (v : VwM) (key : Int) (x : VerM) (k3 k4 k5 : Nat) (w0 : World) (hp : HpAt w0 h m b1 b2 s A c vs) (hS : RdI w0 v.S v.op) (hl : v.op.length ≤ 1000000)
    (h5 : w0.heap[k5]? = some (.cells #[.int .i64 key] 2 (0, 0))) (h3 : w0.heap[k3]? = some (.cells #[.pointer (some ⟨h, 0, none⟩)] 79 (0, 0))) (h4 : w0.heap[k4]? = some (.cells v.cs.toArray 51 (0, 0))) :
    Calls Tryz.prog 74 #[mkV x, .pointer (some ⟨k5, 0, none⟩), .pointer (some ⟨k3, 0, none⟩), .pointer (some ⟨k4, 0, none⟩)] w0 fun e w' => e = .returned (.bool (findP (stE s) v key x)) ∧ BelowD w0.heap.size w0 w' := by
  refine enterP (tab := tab) Tryz.func74 rfl Tryz.ntmps74 rfl (args := [_, _, _, _]) rfl ?_
  refine VC_sound tabOk 100 ?_
  intro b _
  (repeat (first | refine Or.inl ⟨rfl, rfl, ?_⟩ | refine Or.inl ⟨rfl, ?_⟩ | refine Or.inr ?_))
  refine Go_ops rfl (OpTo_loadBlk tabOk (cs := [.int .i64 key]) (.int .i64 key) rfl rfl rfl (fun w hm _ => hm.block_old h5) rfl ?_)
  refine VC_sound tabOk 100 ?_
  refine ⟨fun h1 => ?_, fun h1 => ?_⟩
  rotate_left
  · exact congrArg Value.bool (by simp only [findP, h1, Bool.false_and])
  refine Or.inr ?_
  refine Go_ops rfl (OpTo_loadBlk tabOk (cs := [.pointer (some ⟨h, 0, none⟩)]) (.pointer (some ⟨h, 0, none⟩)) rfl rfl rfl (fun w hm _ => hm.block_old h3) rfl ?_)
  refine VC_sound tabOk 100 ?_
  refine Or.inr ?_
  refine Go_ops rfl (OpTo_loadBlk tabOk (cs := v.cs) v.v rfl rfl rfl (fun w hm _ => hm.block_old h4) rfl ?_)
  refine VC_sound tabOk 100 ?_
  (repeat (first | refine Or.inl ⟨rfl, rfl, ?_⟩ | refine Or.inl ⟨rfl, ?_⟩ | refine Or.inr ?_))
  refine Go_ops rfl (OpTo_pcall (v := .bool (seesP (stE s) v x)) rfl rfl rfl rfl rfl (by kernel_rfl) (fun w hm _ => hp_sees h m b1 b2 s A c vs v x w (hp.old fun n hn => hm.old n hn) (hS.mod hm) hl) ?_)
  refine VC_sound tabOk 100 ?_
  exact congrArg Value.bool (by simp only [findP, h1, Bool.true_and])

theorem HpAt.mod {w0 w : World} {h m b1 b2 : Nat} {s : TxS} {A : Option Addr} {c : Nat} {vs : List VerM} (hp : HpAt w0 h m b1 b2 s A c vs) {Rs : List Res} (hm : Mod [heapOf w0] Rs w) : HpAt w h m b1 b2 s A c vs := hp.old fun n hn => hm.old n hn
theorem HpAt.below {w0 w : World} {h m b1 b2 : Nat} {s : TxS} {A : Option Addr} {c : Nat} {vs : List VerM} (hp : HpAt w0 h m b1 b2 s A c vs) (hb : BelowD w0.heap.size w0 w) : HpAt w h m b1 b2 s A c vs := hp.old fun n hn => hb.block n hn
theorem RdW.below {w0 w : World} {A : Option Addr} {cs : List Value} (hr : RdW w0 A cs) (hb : BelowD w0.heap.size w0 w) : RdW w A cs := hr.old fun n hn => hb.block n hn

set_option maxHeartbeats 1000000 in
theorem hp_find (h m b1 b2 : Nat) (s : TxS) (A : Option Addr) (c : Nat) (vs : List VerM) (v : VwM) (key : Int) (w0 : World) (hp : HpAt w0 h m b1 b2 s A c vs) (hS : RdI w0 v.S v.op) (hl : v.op.length ≤ 1000000) (hn : vs.length ≤ 1000000) :
    Calls Tryz.prog 48 #[.pointer (some ⟨h, 0, none⟩), v.v, .int .i64 key] w0 fun e w' => e = .returned (.int .i64 (idxF (findP (stE s) v key) vs)) ∧ BelowD w0.heap.size w0 w' := by
  refine enterP (tab := tab) Tryz.func48 rfl Tryz.ntmps48 rfl (args := [_, _, _]) rfl ?_
  refine VC_sound tabOk 100 ?_
  intro b3 _ b4 _ b5 _
  (repeat (first | refine Or.inl ⟨rfl, rfl, ?_⟩ | refine Or.inl ⟨rfl, ?_⟩ | refine Or.inr ?_))
  refine Go_ops rfl (OpTo_loadBlk tabOk (cs := hpV m A vs.length c) (.slice A vs.length c) rfl rfl rfl (fun w hm _ => hm.block_old hp.blk) rfl ?_)
  refine VC_sound tabOk 100 ?_
  refine Go_ops rfl (OpTo_pcall (v := .int .i64 (idxF (findP (stE s) v key) vs)) rfl rfl rfl rfl rfl (by kernel_rfl) (fun w hm hio => sl_indexFunc_V A c vs 74 #[] #[.pointer (some ⟨b5, 0, none⟩), .pointer (some ⟨b3, 0, none⟩), .pointer (some ⟨b4, 0, none⟩)] (findP (stE s) v key) w ((hp.mod hm).rd) (by omega) (by kernel_rfl) (fun x _ w2 h2 => hp_find1 h m b1 b2 s A c vs v key x b3 b4 b5 w2 ((hp.mod hm).below h2) (RdW.below (hS.mod hm) h2) hl (blk_below h2 (hm.blk_at (i := 0) rfl)) (blk_below h2 (hm.blk_at (i := 2) rfl)) (blk_below h2 (hm.blk_at (i := 1) rfl)))) ?_)
  refine VC_sound tabOk 100 ?_
  rfl

/-- Is a transaction open and another one, or committed? -/
def othP (st : Int → Int) (v : VwM) (x : Int) : Bool := decide (st x = 2) || (decide (st x = 1) && decide (x ≠ v.own))
set_option maxHeartbeats 1000000 in
theorem hp_others (h m b1 b2 : Nat) (s : TxS) (A : Option Addr) (c : Nat) (vs : List VerM) (v : VwM) (x : Int) (w0 : World) (hp : HpAt w0 h m b1 b2 s A c vs) :
    Calls Tryz.prog 56 #[.pointer (some ⟨h, 0, none⟩), v.v, .int .i64 x] w0 fun e w' => e = .returned (.bool (othP (stE s) v x)) ∧ BelowD w0.heap.size w0 w' := by
  refine enterP (tab := tab) Tryz.func56 rfl Tryz.ntmps56 rfl (args := [_, _, _]) rfl ?_
  refine VC_sound tabOk 100 ?_
  intro b4 _
  refine Or.inr ?_
  refine Go_ops rfl (OpTo_loadBlk tabOk (cs := hpV m A vs.length c) (.pointer (some ⟨m, 0, none⟩)) rfl rfl rfl (fun w hm _ => hm.block_old hp.blk) rfl ?_)
  refine VC_sound tabOk 100 ?_
  refine Go_ops rfl (OpTo_pcall (v := .int .u8 (stE s x)) rfl rfl rfl rfl rfl (by kernel_rfl) (fun w hm _ => by
    have hq := hp.old (w' := w) fun n hn => hm.old n hn
    exact txn_state_p m b1 b2 s x w hq.mgr hq.tO hq.tD) ?_)
  refine VC_sound tabOk 100 ?_
  refine ⟨fun h1 => ?_, fun h1 => ?_⟩
  · exact congrArg Value.bool (by simp only [othP, h1, Bool.true_or])
  refine ⟨fun h2 => ?_, fun h2 => ?_⟩
  · (repeat (first | refine Or.inl ⟨rfl, rfl, ?_⟩ | refine Or.inl ⟨rfl, ?_⟩ | refine Or.inr ?_))
    exact congrArg Value.bool (by simp only [othP, h1, h2, Bool.false_or, Bool.true_and, decide_not])
  · exact congrArg Value.bool (by simp only [othP, h1, h2, Bool.false_or, Bool.false_and])

theorem hp_none (h m b1 b2 : Nat) (s : TxS) (A : Option Addr) (c : Nat) (vs : List VerM) (w0 : World) (hp : HpAt w0 h m b1 b2 s A c vs) :
    Calls Tryz.prog 57 #[.pointer (some ⟨h, 0, none⟩)] w0 fun e w' => e = .returned (.bool false) ∧ BelowD w0.heap.size w0 w' := by
  refine enterP (tab := tab) Tryz.func57 rfl Tryz.ntmps57 rfl (args := [_]) rfl ?_
  refine VC_sound tabOk 100 ?_
  refine Go_ops rfl (OpTo_loadBlk tabOk (cs := hpV m A vs.length c) (.pointer (some ⟨m, 0, none⟩)) rfl rfl rfl (fun w hm _ => hm.block_old hp.blk) rfl ?_)
  refine VC_sound tabOk 100 ?_
  rfl

/-- May a view write? -/
def readyE (st : Int → Int) (v : VwM) : Int := if st v.own = 1 then 0 else 7
set_option maxHeartbeats 1000000 in
theorem hp_ready (h m b1 b2 : Nat) (s : TxS) (A : Option Addr) (c : Nat) (vs : List VerM) (v : VwM) (w0 : World) (hp : HpAt w0 h m b1 b2 s A c vs) :
    Calls Tryz.prog 47 #[.pointer (some ⟨h, 0, none⟩), v.v] w0 fun e w' => e = .returned (.int .i64 (readyE (stE s) v)) ∧ BelowD w0.heap.size w0 w' := by
  refine enterP (tab := tab) Tryz.func47 rfl Tryz.ntmps47 rfl (args := [_, _]) rfl ?_
  refine VC_sound tabOk 100 ?_
  intro b3 _
  refine Go_ops rfl (OpTo_pcall (v := .bool false) rfl rfl rfl rfl rfl (by kernel_rfl) (fun w hm _ => hp_none h m b1 b2 s A c vs w (hp.mod hm)) ?_)
  refine VC_sound tabOk 100 ?_
  refine ⟨fun h => by simp at h, fun _ => ?_⟩
  show Go _ _ _ _
  refine Go_any mixed [] [(0, false), (1, false), (2, false), (4, false), (3, false), (5, false), (6, true), (7, false), (8, false)] rfl (by kernel_rfl) (by kernel_rfl) [.blk b3 51 v.cs] (FrmX [heapOf w0]) (FrmX.stable _) (fun w hm _ => ⟨Holds.of_idx [0] hm, FrmX.of_mod hm⟩) ?_
  refine VC_sound tabOk 100 ?_
  (repeat (first | refine Or.inl ⟨rfl, rfl, ?_⟩ | refine Or.inl ⟨rfl, ?_⟩ | refine Or.inr ?_))
  refine Go_first (v := .pointer (some ⟨m, 0, none⟩)) rfl rfl rfl rfl (fun w _ hw => run_loadVar_at tabOk rfl (hw (heapOf w0) (by simp) _ _ hp.blk) rfl) ?_
  refine VC_sound tabOk 100 ?_
  (repeat (first | refine Or.inl ⟨rfl, rfl, ?_⟩ | refine Or.inl ⟨rfl, ?_⟩ | refine Or.inr ?_))
  refine Go_aloneL rfl rfl (OpTo_pcall (v := .int .u8 (stE s v.own)) rfl rfl rfl rfl rfl (by kernel_rfl) (fun w hm _ => by
      have hq := hp.mod hm
      exact txn_state_p m b1 b2 s v.own w hq.mgr hq.tO hq.tD) ?_)
  refine And.intro (fun w hm _ => ⟨Holds.of_idx [0] hm, FrmX.of_mod hm⟩) ?_
  refine VC_sound tabOk 100 ?_
  refine ⟨fun h1 => ?_, fun h1 => ?_⟩
  · exact congrArg (Value.int .i64) (by rw [readyE, if_neg (by simpa using h1)])
  · exact congrArg (Value.int .i64) (by rw [readyE, if_pos (by simpa using h1)])

/-- May a version live on that a view doesn't see? -/
def deadP (st : Int → Int) (v : VwM) (x : VerM) : Bool := decide (0 < x.died) && (decide (x.died = v.own) || decide (st x.died = 2))
def blkP (st : Int → Int) (v : VwM) (x : VerM) : Bool := othP st v x.born && !deadP st v x
set_option maxHeartbeats 2000000 in
theorem hp_blocks (h m b1 b2 : Nat) (s : TxS) (A : Option Addr) (c : Nat) (vs : List VerM) (v : VwM) (x : VerM) (w0 : World) (hp : HpAt w0 h m b1 b2 s A c vs) :
    Calls Tryz.prog 51 #[.pointer (some ⟨h, 0, none⟩), v.v, mkV x] w0 fun e w' => e = .returned (.bool (blkP (stE s) v x)) ∧ BelowD w0.heap.size w0 w' := by
  refine enterP (tab := tab) Tryz.func51 rfl Tryz.ntmps51 rfl (args := [_, _, _]) rfl ?_
  refine VC_sound tabOk 100 ?_
  intro b4 _ b5 _
  refine Go_cut (σ := Unit) (fun _ => [(0, .v (.pointer (some ⟨h, 0, none⟩))), (4, .v (.pointer (some ⟨b4, 0, none⟩))), (5, .v (.pointer (some ⟨b5, 0, none⟩))), (7, .v (.bool (deadP (stE s) v x)))]) (fun _ => [.blk b5 113 (encV x), .blk b4 51 v.cs]) (fun _ => True) ?_ ?_
  · refine Go_any mixed [] [(0, false), (1, false), (2, false), (3, false), (4, false), (6, false), (5, false), (7, false), (8, false), (9, false), (10, false), (11, false), (12, false), (14, false), (13, false), (15, false), (16, true), (17, false), (18, false), (19, false), (20, false)] rfl (by kernel_rfl) (by kernel_rfl) [.blk b5 113 (encV x), .blk b4 51 v.cs] (FrmX [heapOf w0]) (FrmX.stable _) (fun w hm _ => ⟨Holds.of_idx [0, 1] hm, FrmX.of_mod hm⟩) ?_
    refine VC_sound tabOk 100 ?_
    (repeat (first | refine Or.inl ⟨rfl, rfl, ?_⟩ | refine Or.inl ⟨rfl, ?_⟩ | refine Or.inr ?_))
    refine ⟨fun h1 => ?_, fun h1 => ?_⟩
    rotate_left
    · exact Go_put () trivial ⟨rfl, rfl, rfl, congrArg Value.bool (by simp only [deadP, h1, Bool.false_and]), trivial⟩ (fun _ h => h)
    (repeat (first | refine Or.inl ⟨rfl, rfl, ?_⟩ | refine Or.inl ⟨rfl, ?_⟩ | refine Or.inr ?_))
    (repeat (first | refine Or.inl ⟨rfl, rfl, ?_⟩ | refine Or.inl ⟨rfl, ?_⟩ | refine Or.inr ?_))
    refine ⟨fun h2 => ?_, fun h2 => ?_⟩
    · exact Go_put () trivial ⟨rfl, rfl, rfl, congrArg Value.bool (by simp only [deadP, h1, h2, Bool.true_and, Bool.true_or]), trivial⟩ (fun _ h => h)
    (repeat (first | refine Or.inl ⟨rfl, rfl, ?_⟩ | refine Or.inl ⟨rfl, ?_⟩ | refine Or.inr ?_))
    refine Go_first (v := .pointer (some ⟨m, 0, none⟩)) rfl rfl rfl rfl (fun w _ hw => run_loadVar_at tabOk rfl (hw (heapOf w0) (by simp) _ _ hp.blk) rfl) ?_
    refine VC_sound tabOk 100 ?_
    (repeat (first | refine Or.inl ⟨rfl, rfl, ?_⟩ | refine Or.inl ⟨rfl, ?_⟩ | refine Or.inr ?_))
    refine Go_aloneL rfl rfl (OpTo_pcall (v := .int .u8 (stE s (x.died))) rfl rfl rfl rfl rfl (by kernel_rfl) (fun w hm _ => by
        have hq := hp.mod hm
        exact txn_state_p m b1 b2 s (x.died) w hq.mgr hq.tO hq.tD) ?_)
    refine And.intro (fun w hm _ => ⟨Holds.of_idx [0, 1] hm, FrmX.of_mod hm⟩) ?_
    refine VC_sound tabOk 100 ?_
    exact Go_put () trivial ⟨rfl, rfl, rfl, congrArg Value.bool (by simp only [deadP, h1, h2, Bool.true_and, Bool.false_or]), trivial⟩ (fun _ h => h)
  rintro _ _
  refine VC_sound tabOk 100 ?_
  (repeat (first | refine Or.inl ⟨rfl, rfl, ?_⟩ | refine Or.inl ⟨rfl, ?_⟩ | refine Or.inr ?_))
  (repeat (first | refine Or.inl ⟨rfl, rfl, ?_⟩ | refine Or.inl ⟨rfl, ?_⟩ | refine Or.inr ?_))
  refine Go_ops rfl (OpTo_pcall (v := .bool (othP (stE s) v x.born)) rfl rfl rfl rfl rfl (by kernel_rfl) (fun w hm _ => hp_others h m b1 b2 s A c vs v x.born w (hp.mod hm)) ?_)
  refine VC_sound tabOk 100 ?_
  refine ⟨fun h1 => ?_, fun h1 => ?_⟩
  · exact congrArg Value.bool (by simp only [blkP, h1, Bool.true_and])
  · exact congrArg Value.bool (by simp only [blkP, h1, Bool.false_and])

def insP (st : Int → Int) (v : VwM) (key : Int) (x : VerM) : Bool := decide (x.key = key) && blkP st v x
set_option maxHeartbeats 1000000 in
theorem hp_ins1 (h m b1 b2 : Nat) (s : TxS) (A : Option Addr) (c : Nat) (vs : List VerM) (v : VwM) (key : Int) (text : ByteArray) (x : VerM) (k3 k4 k5 : Nat) (w0 : World) (hp : HpAt w0 h m b1 b2 s A c vs)
    (h5 : w0.heap[k5]? = some (.cells #[.int .i64 key, .string text] 55 (0, 0))) (h3 : w0.heap[k3]? = some (.cells #[.pointer (some ⟨h, 0, none⟩)] 79 (0, 0))) (h4 : w0.heap[k4]? = some (.cells v.cs.toArray 51 (0, 0))) :
    Calls Tryz.prog 50 #[mkV x, .pointer (some ⟨k5, 0, none⟩), .pointer (some ⟨k3, 0, none⟩), .pointer (some ⟨k4, 0, none⟩)] w0 fun e w' => e = .returned (.bool (insP (stE s) v key x)) ∧ BelowD w0.heap.size w0 w' := by
  refine enterP (tab := tab) Tryz.func50 rfl Tryz.ntmps50 rfl (args := [_, _, _, _]) rfl ?_
  refine VC_sound tabOk 100 ?_
  intro b _
  (repeat (first | refine Or.inl ⟨rfl, rfl, ?_⟩ | refine Or.inl ⟨rfl, ?_⟩ | refine Or.inr ?_))
  refine Go_ops rfl (OpTo_loadBlk tabOk (cs := [.int .i64 key, .string text]) (.int .i64 key) rfl rfl rfl (fun w hm _ => hm.block_old h5) rfl ?_)
  refine VC_sound tabOk 100 ?_
  refine ⟨fun h1 => ?_, fun h1 => ?_⟩
  rotate_left
  · exact congrArg Value.bool (by simp only [insP, h1, Bool.false_and])
  refine Or.inr ?_
  refine Go_ops rfl (OpTo_loadBlk tabOk (cs := [.pointer (some ⟨h, 0, none⟩)]) (.pointer (some ⟨h, 0, none⟩)) rfl rfl rfl (fun w hm _ => hm.block_old h3) rfl ?_)
  refine VC_sound tabOk 100 ?_
  refine Or.inr ?_
  refine Go_ops rfl (OpTo_loadBlk tabOk (cs := v.cs) v.v rfl rfl rfl (fun w hm _ => hm.block_old h4) rfl ?_)
  refine VC_sound tabOk 100 ?_
  (repeat (first | refine Or.inl ⟨rfl, rfl, ?_⟩ | refine Or.inl ⟨rfl, ?_⟩ | refine Or.inr ?_))
  refine Go_ops rfl (OpTo_pcall (v := .bool (blkP (stE s) v x)) rfl rfl rfl rfl rfl (by kernel_rfl) (fun w hm _ => hp_blocks h m b1 b2 s A c vs v x w (hp.mod hm)) ?_)
  refine VC_sound tabOk 100 ?_
  exact congrArg Value.bool (by simp only [insP, h1, Bool.true_and])

def truP (st : Int → Int) (v : VwM) (x : VerM) : Bool := seesP st v x && othP st v x.died
set_option maxHeartbeats 1000000 in
theorem hp_tru1 (h m b1 b2 : Nat) (s : TxS) (A : Option Addr) (c : Nat) (vs : List VerM) (v : VwM) (x : VerM) (k3 k4 : Nat) (w0 : World) (hp : HpAt w0 h m b1 b2 s A c vs) (hS : RdI w0 v.S v.op) (hl : v.op.length ≤ 1000000)
    (h3 : w0.heap[k3]? = some (.cells #[.pointer (some ⟨h, 0, none⟩)] 79 (0, 0))) (h4 : w0.heap[k4]? = some (.cells v.cs.toArray 51 (0, 0))) :
    Calls Tryz.prog 54 #[mkV x, .pointer (some ⟨k3, 0, none⟩), .pointer (some ⟨k4, 0, none⟩)] w0 fun e w' => e = .returned (.bool (truP (stE s) v x)) ∧ BelowD w0.heap.size w0 w' := by
  refine enterP (tab := tab) Tryz.func54 rfl Tryz.ntmps54 rfl (args := [_, _, _]) rfl ?_
  refine VC_sound tabOk 100 ?_
  intro b _
  refine Or.inr ?_
  refine Go_ops rfl (OpTo_loadBlk tabOk (cs := [.pointer (some ⟨h, 0, none⟩)]) (.pointer (some ⟨h, 0, none⟩)) rfl rfl rfl (fun w hm _ => hm.block_old h3) rfl ?_)
  refine VC_sound tabOk 100 ?_
  refine Or.inr ?_
  refine Go_ops rfl (OpTo_loadBlk tabOk (cs := v.cs) v.v rfl rfl rfl (fun w hm _ => hm.block_old h4) rfl ?_)
  refine VC_sound tabOk 100 ?_
  (repeat (first | refine Or.inl ⟨rfl, rfl, ?_⟩ | refine Or.inl ⟨rfl, ?_⟩ | refine Or.inr ?_))
  refine Go_ops rfl (OpTo_pcall (v := .bool (seesP (stE s) v x)) rfl rfl rfl rfl rfl (by kernel_rfl) (fun w hm _ => hp_sees h m b1 b2 s A c vs v x w (hp.mod hm) (hS.mod hm) hl) ?_)
  refine VC_sound tabOk 100 ?_
  refine ⟨fun h1 => ?_, fun h1 => ?_⟩
  rotate_left
  · exact congrArg Value.bool (by simp only [truP, h1, Bool.false_and])
  refine Or.inr ?_
  refine Go_ops rfl (OpTo_loadBlk tabOk (cs := [.pointer (some ⟨h, 0, none⟩)]) (.pointer (some ⟨h, 0, none⟩)) rfl rfl rfl (fun w hm _ => hm.block_old h3) rfl ?_)
  refine VC_sound tabOk 100 ?_
  refine Or.inr ?_
  refine Go_ops rfl (OpTo_loadBlk tabOk (cs := v.cs) v.v rfl rfl rfl (fun w hm _ => hm.block_old h4) rfl ?_)
  refine VC_sound tabOk 100 ?_
  (repeat (first | refine Or.inl ⟨rfl, rfl, ?_⟩ | refine Or.inl ⟨rfl, ?_⟩ | refine Or.inr ?_))
  refine Go_ops rfl (OpTo_pcall (v := .bool (othP (stE s) v x.died)) rfl rfl rfl rfl rfl (by kernel_rfl) (fun w hm _ => hp_others h m b1 b2 s A c vs v x.died w (hp.mod hm)) ?_)
  refine VC_sound tabOk 100 ?_
  exact congrArg Value.bool (by simp only [truP, h1, Bool.true_and])
end Go.Proofs.YtbhlkninmbafcaaGreat
