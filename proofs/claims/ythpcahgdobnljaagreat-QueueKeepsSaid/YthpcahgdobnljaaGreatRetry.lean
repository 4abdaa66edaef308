/- What the functions of package retry do. -/
import Derived.Test.YthpcahgdobnljaaGreatItem
import Derived.Test.YthpcahgdobnljaaGreatLayT
import Derived.Test.YthpcahgdobnljaaGreatRxB
import Derived.Test.YthpcahgdobnljaaGreatR09
set_option maxRecDepth 100000
set_option autoImplicit false
set_option linter.unusedVariables false
set_option linter.unusedSimpArgs false
namespace Go.Proofs.YthpcahgdobnljaaGreat.Rt
open Go.RX Go Go.RowKit


def zeroT : ItemM := ⟨0, zeroE⟩
set_option maxHeartbeats 400000 in
theorem sl_indexFunc_T (A : Option Addr) (c : Nat) (zs : List ItemM) (f : FuncId) (first cap : Array Value) (p : ItemM → Bool) (w0 : World) (hA : RdW w0 A (zs.flatMap encT)) (hn : zs.length ≤ 4611686018427387904) (hf : callable Tryz.prog f = true) (hp : Answers Tryz.prog w0 f first cap mkT p zs) :
    Calls Tryz.prog 185 #[.slice A zs.length c, .func (.func f) first cap] w0 fun e w' => e = .returned (.int .i64 (idxF p zs)) ∧ BelowD w0.heap.size w0 w' := by
  refine enterP (tab := tab) Tryz.func185 rfl Tryz.ntmps185 rfl (args := [_, _]) rfl ?_
  refine VC_sound tabOk 100 ?_
  refine Go_loop (σ := Nat) (fun i => [(0, .v (.slice A zs.length c)), (1, .v (.func (.func f) first cap)), (7, .v (.int .i64 zs.length)), (8, .v (.int .i64 i))]) (fun _ => []) (fun i => i ≤ zs.length ∧ ∀ j (h : j < zs.length), j < i → p zs[j] = false) (fun i => zs.length - i) 0 ⟨Nat.zero_le _, fun _ _ h => by omega⟩ ⟨rfl, rfl, rfl, rfl, trivial⟩ (fun _ h => h) ?_
  intro i ⟨hi, hne⟩
  refine VC_sound tabOk 100 ?_
  refine ⟨fun hb => ?_, fun hb => ?_⟩
  · have hlt : i < zs.length := by simpa using hb
    obtain ⟨b, o, rfl⟩ := RdW.some encT_is hA (ne_nil_of_lt hlt)
    refine ⟨⟨by omega, by omega⟩, ?_⟩
    refine Go_ops rfl (OpTo_loadRow tabOk encT_is (mkT zs[i]) rfl rfl rfl rfl rfl (fun h => by first | rfl | cases h) (fun w hm _ => hA.mod hm) (List.getElem?_eq_getElem hlt) rfl ?_)
    refine VC_sound tabOk 100 ?_
    refine Go_ops rfl (OpTo_pcall (v := .bool (p zs[i])) (av := first.toList ++ [mkT zs[i]] ++ cap.toList) rfl rfl rfl rfl rfl hf (fun w hm hio => hp zs[i] (List.getElem_mem hlt) w (hm.below hio)) ?_)
    refine VC_sound tabOk 100 ?_
    refine ⟨fun hb => ?_, fun hb => ?_⟩
    · exact congrArg (Value.int .i64) (idxF_at p zs i hlt hb hne).symm
    · refine ⟨_, wrap_i64 (n := (i : Int) + 1) (by omega) (by omega), ?_⟩
      refine Go_fin (i + 1) ⟨by omega, fun j h hj => ?_⟩ (by omega) ⟨rfl, rfl, rfl, rfl, trivial⟩ (fun _ h => h)
      by_cases e : j = i
      · subst e; exact hb
      · exact hne j h (by omega)
  · have hge : ¬ i < zs.length := by simpa using hb
    exact congrArg (Value.int .i64) (idxF_none p zs fun j h => hne j h (by omega)).symm

set_option maxHeartbeats 400000 in
theorem sl_containsFunc_T (A : Option Addr) (c : Nat) (zs : List ItemM) (f : FuncId) (first cap : Array Value) (p : ItemM → Bool) (w0 : World) (hA : RdW w0 A (zs.flatMap encT)) (hn : zs.length ≤ 4611686018427387904) (hf : callable Tryz.prog f = true) (hp : Answers Tryz.prog w0 f first cap mkT p zs) :
    Calls Tryz.prog 156 #[.slice A zs.length c, .func (.func f) first cap] w0 fun e w' => e = .returned (.bool (zs.any p)) ∧ BelowD w0.heap.size w0 w' := by
  refine enterP (tab := tab) Tryz.func156 rfl Tryz.ntmps156 rfl (args := [_, _]) rfl ?_
  refine VC_sound tabOk 100 ?_
  refine Go_ops rfl (OpTo_pcall rfl rfl rfl rfl rfl (by kernel_rfl) (fun w hm hio => sl_indexFunc_T A c zs f first cap p w (hA.mod hm) hn hf (hp.below (hm.below hio))) ?_)
  refine VC_sound tabOk 100 ?_
  exact congrArg Value.bool (idxF_any p zs)

set_option maxHeartbeats 1000000 in
theorem sl_delete_T (A : Option Addr) (c : Nat) (xs : List ItemM) (f : FuncId) (first cap : Array Value) (p : ItemM → Bool) (w0 : World) (hfs : List PH) (hm : Mod hfs [own encT 9 182 A c xs] w0) (hn : xs.length ≤ 4611686018427387904) (hf : callable Tryz.prog f = true) (hp : AnswersM Tryz.prog hfs f first cap mkT p xs) :
    Calls Tryz.prog 163 #[.slice A xs.length c, .func (.func f) first cap] w0 fun e w' => ∃ v Rs', e = .returned v ∧ (v = .slice A (xs.filter fun x => !p x).length c ∧ Rs' = [own encT 9 182 A c (xs.filter fun x => !p x)]) ∧ Mod hfs Rs' w' ∧ Oth w0 w' := by
  have hcap := hm.own_le (i := 0) rfl
  refine enterN (tab := tab) Tryz.func163 rfl Tryz.ntmps163 rfl (args := [_, _]) rfl hm ?_
  refine VC_sound tabOk 100 ?_
  refine Go_ops rfl (OpTo_pcall (v := .int .i64 (idxF p xs)) rfl rfl rfl rfl rfl (by kernel_rfl) (fun w hm _ => sl_indexFunc_T A c xs f first cap p w (hm.own_rd (i := 0) rfl) hn hf (hp.answers hm)) ?_)
  refine VC_sound tabOk 100 ?_
  rcases idxF_spec p xs with ⟨h0, hall⟩ | ⟨i0, hi0, h0, hp0, hne0⟩
  · rw [h0]
    refine ⟨fun _ => ?_, fun h => nomatch h⟩
    have e : (xs.filter fun x => !p x) = xs := List.filter_eq_self.2 fun x hx => by simp [hall x hx]
    refine ⟨_, ⟨?_, ?_⟩, fun _ _ h => h⟩
    · rw [e]; rfl
    · rw [e]
  · rw [h0]
    refine ⟨fun h => ?_, fun _ => ?_⟩
    · have := of_decide_eq_true h; omega
    obtain ⟨hs0, hf0⟩ := Sift.start hi0 hp0 hne0
    refine ⟨_, wrap_i64 (n := (i0 : Int) + 1) (by omega) (by omega), ?_⟩
    obtain ⟨b, o, rfl⟩ := RdW.some encT_is (hm.own_rd (i := 0) rfl) (ne_nil_of_lt hi0)
    refine Go_loop (σ := Nat × List ItemM) (fun s => [(0, .v (.slice (some ⟨b, o, none⟩) xs.length c)), (1, .v (.func (.func f) first cap)), (5, .v (.int .i64 (((xs.take s.1).filter fun x => !p x).length))), (6, .v (.int .i64 s.1))]) (fun s => [own encT 9 182 (some ⟨b, o, none⟩) c s.2])
      (fun s => Sift (fun x => !p x) xs s.2 s.1 ∧ ((xs.take s.1).filter fun x => !p x).length < s.1) (fun s => xs.length - s.1) (i0 + 1, xs) ⟨hs0, by simp only [hf0, List.length_take]; omega⟩ ⟨rfl, rfl, ?_, rfl, trivial⟩ (fun _ h => h) ?_
    · simp only [hf0, List.length_take, Nat.min_eq_left (Nat.le_of_lt hi0)]
    rintro ⟨j, ys⟩ ⟨hs, hlt0⟩
    simp only at hs hlt0
    dsimp only
    refine VC_sound tabOk 100 ?_
    refine ⟨fun h1 => ?_, fun h1 => ?_⟩
    · have hj : j < xs.length := by simpa using h1
      refine ⟨⟨by omega, by omega⟩, ?_⟩
      refine Go_ops rfl (OpTo_loadRow tabOk encT_is (mkT xs[j]) rfl rfl rfl rfl rfl (fun h => by first | rfl | cases h) (fun w hm _ => hm.own_rd (i := 0) rfl) (hs.at_ hj) rfl ?_)
      refine VC_sound tabOk 100 ?_
      intro b7 _
      (repeat (first | refine Or.inl ⟨rfl, rfl, ?_⟩ | refine Or.inl ⟨rfl, ?_⟩ | refine Or.inr ?_))
      refine Go_ops rfl (OpTo_pcall (v := .bool (p xs[j])) (av := first.toList ++ [mkT xs[j]] ++ cap.toList) rfl rfl rfl rfl rfl hf (fun w hm hio => hp xs[j] (List.getElem_mem hj) _ w hm) ?_)
      refine VC_sound tabOk 100 ?_
      refine ⟨fun h2 => ?_, fun h2 => ?_⟩
      · have hk := hs.keep hj (q := fun x => !p x) h2
        (repeat (first | refine Or.inl ⟨rfl, rfl, ?_⟩ | refine Or.inl ⟨rfl, ?_⟩ | refine Or.inr ?_))
        refine ⟨⟨by omega, by have := hs.len; omega⟩, ?_⟩
        (repeat (first | refine Or.inl ⟨rfl, rfl, ?_⟩ | refine Or.inl ⟨rfl, ?_⟩ | refine Or.inr ?_))
        show Go _ _ _ _
        refine Go_ops rfl (OpTo_storeRow tabOk encT_is (n := ((xs.take j).filter fun x => !p x).length) (s := .v (mkT xs[j])) (u := xs[j]) (xs := ys) 1 rfl rfl rfl rfl rfl rfl rfl (by have := hs.len; omega) rfl rfl ?_)
        refine VC_sound tabOk 100 ?_
        refine ⟨_, wrap_i64 (n := (((xs.take j).filter fun x => !p x).length : Int) + 1) (by omega) (by omega), ?_⟩
        refine ⟨_, wrap_i64 (n := (j : Int) + 1) (by omega) (by omega), ?_⟩
        refine Go_fin (j + 1, ys.set ((xs.take j).filter fun x => !p x).length xs[j]) ⟨hk.1, by simp only [hk.2, List.length_append, List.length_cons, List.length_nil]; omega⟩ (by simp; omega) ⟨rfl, rfl, ?_, rfl, trivial⟩ (fun _ h => h.sel [1] rfl)
        simp only [hk.2, List.length_append, List.length_cons, List.length_nil]; rfl
      · have hk := hs.skip hj (q := fun x => !p x) h2
        refine ⟨_, wrap_i64 (n := (j : Int) + 1) (by omega) (by omega), ?_⟩
        refine Go_fin (j + 1, ys) ⟨hk.1, by simp only [hk.2]; omega⟩ (by simp; omega) ⟨rfl, rfl, ?_, rfl, trivial⟩ (fun _ h => h.sel [1] rfl)
        simp only [hk.2]
    · have hj : ¬ j < xs.length := by simpa using h1
      obtain ⟨hd1, hd2⟩ := hs.done hj
      have hle := List.length_filter_le (fun x => !p x) xs
      have hyl := hs.len
      rw [hd2]
      refine ⟨⟨by omega, by omega⟩, ?_⟩
      show Go _ _ _ _
      refine Go_ops rfl (OpTo_clear tabOk encT_is (j := (xs.filter fun x => !p x).length) (m := xs.length - (xs.filter fun x => !p x).length) zeroT 0 rfl rfl rfl rfl rfl rfl rfl rfl (by omega) ?_)
      refine VC_sound tabOk 100 ?_
      refine ⟨⟨by omega, by omega⟩, ?_⟩
      refine ⟨_, ⟨rfl, rfl⟩, fun hfs w h => ?_⟩
      have h := h.own_take (i := 0) (n := (xs.filter fun x => !p x).length) encT_is (by simp; omega) rfl
      have e : (ys.take (xs.filter fun x => !p x).length ++ List.replicate (xs.length - (xs.filter fun x => !p x).length) zeroT).take (xs.filter fun x => !p x).length = xs.filter fun x => !p x := by
        rw [hd1]; simp
      rw [e] at h
      exact h


def rowTQ (xs : List ItemM) : Value → List Res → Prop := fun v Rs => ∃ A c, v = .slice A xs.length c ∧ Rs = [own encT 9 182 A c xs]
set_option maxHeartbeats 400000 in
theorem sl_clone_T (A : Option Addr) (c : Nat) (xs : List ItemM) (w0 : World) (hA : RdW w0 A (xs.flatMap encT)) (hn : xs.length ≤ 1000000) :
    Calls Tryz.prog 137 #[.slice A xs.length c] w0 fun e w' => ∃ v Rs', e = .returned v ∧ rowTQ xs v Rs' ∧ Mod [heapOf w0] Rs' w' ∧ Oth w0 w' := by
  refine enterN (tab := tab) Tryz.func137 rfl Tryz.ntmps137 rfl (args := [_]) rfl (Mod.start w0) ?_
  refine VC_sound tabOk 100 ?_
  refine ⟨fun h => ?_, fun h => ?_⟩
  · have hnil : xs = [] := by
      rcases hA with h1 | ⟨b, o, h1, _⟩
      · exact (encT_is).flat_nil h1
      · rw [h1] at h; cases h
    subst hnil
    exact ⟨_, ⟨none, 0, rfl, rfl⟩, fun _ _ hm => hm.own_nil none⟩
  · intro b1 _
    refine Go_res [own encT 9 182 (some ⟨b1, 0, none⟩) 0 []] (fun w h => h.own_blk (i := 0) (xs := []) rfl rfl (by simp)) ?_
    show Go _ _ _ _
    refine Go_ops rfl (OpTo_append tabOk encT_is (ys := xs) (i := 0) rfl rfl rfl rfl rfl rfl rfl rfl rfl rfl rfl (fun w hm _ => hA.mod hm) (by simp; omega) (by simp; omega) (fun A2 c2 => ?_))
    refine VC_sound tabOk 100 ?_
    exact ⟨_, ⟨A2, c2, by simp; rfl, rfl⟩, fun _ _ hm => hm⟩



/-! ### plain -/
abbrev idOwn (x : ItemM) : Int × ByteArray := (x.ev.id, x.ev.owner)
/-- No event waits twice for one owner. -/
abbrev OkT (xs : List ItemM) : Prop := (xs.map idOwn).Nodup
abbrev RiseT (xs : List ItemM) : Prop := Rise ltT keyT xs
def hasP (e : EventM) (o : ByteArray) (x : ItemM) : Bool := decide (x.ev.id = e.id) && (x.ev.owner.toList == o.toList)
def triesUp (t : Int) : Int := (if 2147483646 < t then 2147483646 else t) + 1
def newIt (e : EventM) (o : ByteArray) (at_ : Int) : ItemM := ⟨at_, { e with owner := o, tries := triesUp e.tries }⟩
/-- What Add answers. -/
def addE (xs : List ItemM) (e : EventM) (o : ByteArray) : Int := if (o.toList == (ByteArray.toList ⟨#[]⟩)) = true then 1 else if xs.any (hasP e o) = true then 5 else if 16 ≤ xs.length then 8 else 0
def PutT (xs : List ItemM) (it : ItemM) (ys : List ItemM) : Prop := (xs ++ [it]).Perm ys ∧ RiseT ys
def AddT (xs : List ItemM) (e : EventM) (o : ByteArray) (at_ : Int) (ys : List ItemM) : Prop := (addE xs e o = 0 ∧ PutT xs (newIt e o at_) ys) ∨ (addE xs e o ≠ 0 ∧ ys = xs)
theorem okT_new {xs : List ItemM} {e : EventM} {o : ByteArray} {at_ : Int} (h : OkT xs) (hn : xs.any (hasP e o) = false) : OkT (xs ++ [newIt e o at_]) := by
  rw [OkT, List.map_append, List.nodup_append]
  refine ⟨h, by simp, fun a ha b hb hab => ?_⟩
  simp at hb
  subst hb hab
  obtain ⟨x, hx, hxe⟩ := List.mem_map.1 ha
  have : hasP e o x = false := List.any_eq_false.1 hn x hx |> fun h => by simpa using h
  simp only [idOwn, newIt, Prod.mk.injEq] at hxe
  simp [hasP, hxe.1, hxe.2] at this
theorem okT_keys {xs : List ItemM} (h : OkT xs) : (xs.map keyT).Nodup := by
  refine List.pairwise_map.2 ((List.pairwise_map.1 h).imp fun {a b} hne he => hne ?_)
  simp only [keyT, Prod.mk.injEq] at he
  simp [idOwn, he.2.1, he.2.2]
theorem AddT.ok {xs ys : List ItemM} {e : EventM} {o : ByteArray} {at_ : Int} (h : AddT xs e o at_ ys) (hk : OkT xs) (hr : RiseT xs) : OkT ys ∧ RiseT ys ∧ (addE xs e o = 0 → ys.length = xs.length + 1) ∧ (addE xs e o ≠ 0 → ys = xs) := by
  rcases h with ⟨h0, h1, h2⟩ | ⟨h0, rfl⟩
  · have hn : xs.any (hasP e o) = false := by
      unfold addE at h0
      split at h0
      · omega
      · split at h0
        · omega
        · rename_i h; simpa using h
    exact ⟨((h1.map idOwn).nodup_iff).1 (okT_new hk hn), h2, fun _ => by simpa using h1.length_eq.symm, fun h => absurd h0 h⟩
  · exact ⟨hk, hr, fun h => absurd h h0, fun _ => rfl⟩
theorem AddT.unique {xs ys zs : List ItemM} {e : EventM} {o : ByteArray} {at_ : Int} (hk : OkT xs) (h : AddT xs e o at_ ys) (h' : AddT xs e o at_ zs) : ys = zs := by
  rcases h with ⟨h0, h1, h2⟩ | ⟨h0, rfl⟩
  · rcases h' with ⟨g0, g1, g2⟩ | ⟨g0, rfl⟩
    · have hn : xs.any (hasP e o) = false := by
        unfold addE at h0
        split at h0
        · omega
        · split at h0
          · omega
          · rename_i h; simpa using h
      have hko := okT_keys (((h1.map idOwn).nodup_iff).1 (okT_new (at_ := at_) hk hn))
      exact Rise.unique ordT h2 g2 (sameBy_of_perm (h1.symm.trans g1) hko)
    · exact absurd h0 g0
  · rcases h' with ⟨g0, _⟩ | ⟨_, rfl⟩
    · exact absurd g0 h0
    · rfl
def dueL (now : Int) (xs : List ItemM) : List EventM := (xs.filter fun x => decide (x.at_ ≤ now)).map ItemM.ev
theorem dueL_len (now : Int) (xs : List ItemM) : (dueL now xs).length ≤ xs.length := by rw [dueL, List.length_map]; exact List.length_filter_le _ _

/-! ### calls -/
abbrev rtR (b : Nat) (A : Option Addr) (c : Nat) (xs : List ItemM) : List Res := [.blk b 184 [.slice A xs.length c], own encT 9 182 A c xs]
def rowEvQ (xs : List EventM) : Value → List Res → Prop := fun v Rs => ∃ A c, v = .slice A xs.length c ∧ Rs = [own encE 8 65 A c xs]

theorem retry_new (w0 : World) : Calls Tryz.prog 83 #[] w0 fun e w' => ∃ v Rs', e = .returned v ∧ (∃ b, v = .pointer (some ⟨b, 0, none⟩) ∧ Rs' = rtR b none 0 []) ∧ Mod [heapOf w0] Rs' w' ∧ Oth w0 w' := by
  refine enterN (tab := tab) Tryz.func83 rfl Tryz.ntmps83 rfl (args := []) rfl (Mod.start w0) ?_
  refine VC_sound tabOk 100 ?_
  intro b _
  exact ⟨_, ⟨b, rfl, rfl⟩, fun _ _ h => (h.own_nil none).sel [1, 0] rfl⟩

theorem retry_addA (b5 b6 : Nat) (e : EventM) (o : ByteArray) (x : ItemM) (w0 : World) (h5 : w0.heap[b5]? = some (.cells (encE e).toArray 65 (0, 0))) (h6 : w0.heap[b6]? = some (.cells #[.string o] 9 (0, 0))) :
    Calls Tryz.prog 157 #[mkT x, .pointer (some ⟨b5, 0, none⟩), .pointer (some ⟨b6, 0, none⟩)] w0 fun r w' => r = .returned (.bool (hasP e o x)) ∧ BelowD w0.heap.size w0 w' := by
  refine enterP (tab := tab) Tryz.func157 rfl Tryz.ntmps157 rfl (args := [_, _, _]) rfl ?_
  refine VC_sound tabOk 100 ?_
  intro b3 _
  (repeat (first | refine Or.inl ⟨rfl, rfl, ?_⟩ | refine Or.inl ⟨rfl, ?_⟩ | refine Or.inr ?_))
  refine Go_ops rfl (OpTo_loadBlk tabOk (cs := encE e) (.int .i64 e.id) rfl rfl rfl (fun w hm _ => hm.block_old h5) rfl ?_)
  refine VC_sound tabOk 100 ?_
  refine ⟨fun h => ?_, fun h => ?_⟩
  · (repeat (first | refine Or.inl ⟨rfl, rfl, ?_⟩ | refine Or.inl ⟨rfl, ?_⟩ | refine Or.inr ?_))
    refine Go_ops rfl (OpTo_loadBlk tabOk (cs := [.string o]) (.string o) rfl rfl rfl (fun w hm _ => hm.block_old h6) rfl ?_)
    refine VC_sound tabOk 100 ?_
    exact congrArg Value.bool (by simp only [hasP, h, Bool.true_and])
  · exact congrArg Value.bool (by simp only [hasP, h, Bool.false_and])

theorem retry_sort (A : Option Addr) (c : Nat) (xs : List ItemM) (hne : xs ≠ []) (hl : xs.length ≤ 1000000) (w0 : World) (hfs : List PH) (hm : Mod hfs [own encT 9 182 A c xs] w0) :
    Calls Tryz.prog 158 #[.slice A xs.length c, .func (.func 159) #[] #[]] w0 fun e w' => ∃ v Rs', e = .returned v ∧ (v = .tuple #[] ∧ ∃ ys, xs.Perm ys ∧ RiseT ys ∧ Rs' = [own encT 9 182 A c ys]) ∧ Mod hfs Rs' w' ∧ Oth w0 w' :=
  sortFunc_mod sortIt_lays encT_is (fun w => Tryz.isAgg182 w) (fun w => Tryz.sizeOf182 w) (fun x v hv => by simp [encT, encE] at hv; rcases hv with rfl | rfl | rfl | rfl | rfl | rfl | rfl | rfl | rfl <;> rfl) ordT cmpT_ok 159 (by kernel_rfl) retry_addC hne hl hm

set_option maxHeartbeats 4000000 in
theorem retry_add (b : Nat) (A : Option Addr) (c : Nat) (xs : List ItemM) (e : EventM) (o : ByteArray) (at_ : Int) (hl : xs.length ≤ 1000) (ht : 0 ≤ e.tries) (w0 : World) (hfs : List PH) (hm : Mod hfs (rtR b A c xs) w0) :
    Calls Tryz.prog 103 #[.pointer (some ⟨b, 0, none⟩), mkE e, .string o, .int .i64 at_] w0 fun r w' => ∃ v Rs', r = .returned v ∧ (∃ A' c' ys, v = .int .i64 (addE xs e o) ∧ AddT xs e o at_ ys ∧ Rs' = rtR b A' c' ys) ∧ Mod hfs Rs' w' ∧ Oth w0 w' := by
  refine enterN (tab := tab) Tryz.func103 rfl Tryz.ntmps103 rfl (args := [_, _, _, _]) rfl hm ?_
  refine VC_sound tabOk 100 ?_
  intro b5 _
  intro b6 _
  (repeat (first | refine Or.inl ⟨rfl, rfl, ?_⟩ | refine Or.inl ⟨rfl, ?_⟩ | refine Or.inr ?_))
  refine ⟨fun h1 => ?_, fun h1 => ?_⟩
  · have he : addE xs e o = 1 := by rw [addE, if_pos h1]
    exact ⟨_, ⟨A, c, xs, by rw [he]; rfl, .inr ⟨by omega, rfl⟩, rfl⟩, fun _ _ h => h.sel [2, 3] rfl⟩
  have h1' : ¬ (o.toList == (ByteArray.toList ⟨#[]⟩)) = true := by rw [h1]; simp
  (repeat (first | refine Or.inl ⟨rfl, rfl, ?_⟩ | refine Or.inl ⟨rfl, ?_⟩ | refine Or.inr ?_))
  refine Go_ops rfl (OpTo_pcall (v := .bool (xs.any (hasP e o))) rfl rfl rfl rfl rfl (by kernel_rfl) (fun w hm hio => sl_containsFunc_T A c xs 157 #[] #[.pointer (some ⟨b5, 0, none⟩), .pointer (some ⟨b6, 0, none⟩)] (hasP e o) w (hm.own_rd (i := 3) rfl) (by omega) (by kernel_rfl)
    (fun x hx w2 hb2 => retry_addA b5 b6 e o x w2 (blk_below hb2 (hm.blk_at (i := 1) rfl)) (blk_below hb2 (hm.blk_at (i := 0) rfl)))) ?_)
  refine VC_sound tabOk 100 ?_
  refine ⟨fun h2 => ?_, fun h2 => ?_⟩
  · have he : addE xs e o = 5 := by rw [addE, if_neg h1', if_pos h2]
    exact ⟨_, ⟨A, c, xs, by rw [he]; rfl, .inr ⟨by omega, rfl⟩, rfl⟩, fun _ _ h => h.sel [2, 3] rfl⟩
  have h2' : ¬ xs.any (hasP e o) = true := by rw [h2]; simp
  (repeat (first | refine Or.inl ⟨rfl, rfl, ?_⟩ | refine Or.inl ⟨rfl, ?_⟩ | refine Or.inr ?_))
  refine ⟨fun h3 => ?_, fun h3 => ?_⟩
  · have he : addE xs e o = 8 := by rw [addE, if_neg h1', if_neg h2', if_pos (by simp at h3; omega)]
    exact ⟨_, ⟨A, c, xs, by rw [he]; rfl, .inr ⟨by omega, rfl⟩, rfl⟩, fun _ _ h => h.sel [2, 3] rfl⟩
  have he : addE xs e o = 0 := by rw [addE, if_neg h1', if_neg h2', if_neg (by simp at h3; omega)]
  (repeat (first | refine Or.inl ⟨rfl, rfl, ?_⟩ | refine Or.inl ⟨rfl, ?_⟩ | refine Or.inr ?_))
  refine ⟨triesUp e.tries, ?_, ?_⟩
  · refine wrap_i64 (n := triesUp e.tries) ?_ ?_ <;> (unfold triesUp; split <;> omega)
  (repeat (first | refine Or.inl ⟨rfl, rfl, ?_⟩ | refine Or.inl ⟨rfl, ?_⟩ | refine Or.inr ?_))
  show Go _ _ _ _
  refine Go_any mixed [9, 12] [(0, false), (1, false), (2, false), (3, false), (5, false), (4, false), (6, false), (7, false), (8, true), (9, true), (10, false), (11, false), (12, true)] rfl (by kernel_rfl) (by kernel_rfl) [.blk b5 65 (encE (newIt e o at_).ev), .blk b 184 [.slice A xs.length c]] (fun _ => True) (fun _ _ _ h => h) (fun w hm _ => ⟨Holds.of_idx [1, 2] hm, trivial⟩) ?_
  refine VC_sound tabOk 100 ?_
  (repeat (first | refine Or.inl ⟨rfl, rfl, ?_⟩ | refine Or.inl ⟨rfl, ?_⟩ | refine Or.inr ?_))
  intro b44 _
  refine Go_aloneM rfl rfl rfl (OpTo_append tabOk encT_is (ys := [newIt e o at_]) (i := 4) rfl rfl rfl rfl rfl rfl rfl rfl rfl rfl rfl (fun w hm _ => hm.blk_rd (i := 0) rfl) (by simp; omega) (by simp; omega) (fun A2 c2 => ?_))
  refine VC_sound tabOk 100 ?_
  (repeat (first | refine Or.inl ⟨rfl, rfl, ?_⟩ | refine Or.inl ⟨rfl, ?_⟩ | refine Or.inr ?_))
  have hl2 : xs.length + 1 = (xs ++ [newIt e o at_]).length := by simp
  rw [hl2]
  refine Go_sel [3, 4] rfl ?_
  show Go _ _ _ _
  refine Go_ops rfl (OpTo_mcall [own encT 9 182 A2 c2 (xs ++ [newIt e o at_])] [.blk b 184 [.slice A2 (xs ++ [newIt e o at_]).length c2]] (List.Perm.swap _ _ _) rfl rfl rfl rfl rfl (by kernel_rfl) (fun w hb hm hio hsp k => retry_sort A2 c2 (xs ++ [newIt e o at_]) (by simp) (by simp; omega) w _ k) ?_)
  rintro _ _ ⟨rfl, ys, h4, h5, rfl⟩
  refine VC_sound tabOk 100 ?_
  exact ⟨_, ⟨A2, c2, ys, by rw [he]; rfl, .inl ⟨he, h4, h5⟩, rfl⟩, fun _ _ h => by rw [h4.length_eq] at h; exact h.sel [1, 0] rfl⟩

theorem retry_add_nil (e : EventM) (o : ByteArray) (at_ : Int) (w0 : World) : Calls Tryz.prog 103 #[.pointer none, mkE e, .string o, .int .i64 at_] w0 fun r w' => r = .returned (.int .i64 4) ∧ BelowD w0.heap.size w0 w' := by
  refine enterP (tab := tab) Tryz.func103 rfl Tryz.ntmps103 rfl (args := [_, _, _, _]) rfl ?_
  refine VC_sound tabOk 100 ?_
  intro b5 _
  intro b6 _
  rfl

theorem retry_all (b : Nat) (A : Option Addr) (c : Nat) (xs : List ItemM) (w0 : World) (hb : w0.heap[b]? = some (.cells #[.slice A xs.length c] 184 (0, 0))) (hr : RdW w0 A (xs.flatMap encT)) (hl : xs.length ≤ 1000000) :
    Calls Tryz.prog 76 #[.pointer (some ⟨b, 0, none⟩)] w0 fun r w' => ∃ v Rs', r = .returned v ∧ rowTQ xs v Rs' ∧ Mod [heapOf w0] Rs' w' ∧ Oth w0 w' := by
  refine enterN (tab := tab) Tryz.func76 rfl Tryz.ntmps76 rfl (args := [_]) rfl (Mod.start w0) ?_
  refine VC_sound tabOk 100 ?_
  refine Go_ops rfl (OpTo_loadBlk tabOk (cs := [.slice A xs.length c]) (.slice A xs.length c) rfl rfl rfl (fun w hm _ => hm.block_old hb) rfl ?_)
  refine VC_sound tabOk 100 ?_
  show Go _ _ _ _
  refine Go_ops rfl (OpTo_ncall rfl rfl rfl rfl rfl (by kernel_rfl) (fun w hm _ => sl_clone_T A c xs w (hr.mod hm) hl) ?_)
  rintro _ _ ⟨A2, c2, rfl, rfl⟩
  refine VC_sound tabOk 100 ?_
  exact ⟨_, ⟨A2, c2, rfl, rfl⟩, fun _ _ h => h⟩
theorem retry_all_nil (w0 : World) : Calls Tryz.prog 76 #[.pointer none] w0 fun r w' => r = .returned (.slice none 0 0) ∧ BelowD w0.heap.size w0 w' := by
  refine enterP (tab := tab) Tryz.func76 rfl Tryz.ntmps76 rfl (args := [_]) rfl ?_
  refine VC_sound tabOk 100 ?_
  rfl

set_option maxHeartbeats 1000000 in
theorem retry_due (b : Nat) (A : Option Addr) (c : Nat) (xs : List ItemM) (now : Int) (w0 : World) (hb : w0.heap[b]? = some (.cells #[.slice A xs.length c] 184 (0, 0))) (hr : RdW w0 A (xs.flatMap encT)) (hl : xs.length ≤ 10000) :
    Calls Tryz.prog 162 #[.pointer (some ⟨b, 0, none⟩), .int .i64 now] w0 fun r w' => ∃ v Rs', r = .returned v ∧ rowEvQ (dueL now xs) v Rs' ∧ Mod [heapOf w0] Rs' w' ∧ Oth w0 w' := by
  refine enterN (tab := tab) Tryz.func162 rfl Tryz.ntmps162 rfl (args := [_, _]) rfl (Mod.start w0) ?_
  refine VC_sound tabOk 100 ?_
  show Go _ _ _ _
  refine Go_ops rfl (OpTo_ncall rfl rfl rfl rfl rfl (by kernel_rfl) (fun w hm _ => retry_all b A c xs w (hm.block_old hb) (hr.mod hm) (by omega)) ?_)
  rintro _ _ ⟨A2, c2, rfl, rfl⟩
  refine VC_sound tabOk 100 ?_
  refine Go_loop (σ := Nat × Option Addr × Nat) (fun s => [(1, .v (.int .i64 now)), (5, .v (.slice s.2.1 (dueL now (xs.take s.1)).length s.2.2)), (9, .v (.slice A2 xs.length c2)), (10, .v (.int .i64 xs.length)), (11, .v (.int .i64 s.1))]) (fun s => [own encE 8 65 s.2.1 s.2.2 (dueL now (xs.take s.1)), own encT 9 182 A2 c2 xs]) (fun s => s.1 ≤ xs.length) (fun s => xs.length - s.1) (0, none, 0) (Nat.zero_le _) ⟨rfl, rfl, rfl, rfl, rfl, trivial⟩ (fun _ h => h.own_nil none) ?_
  rintro ⟨i, A', c'⟩ hi
  dsimp only at hi ⊢
  have hdl := dueL_len now (xs.take i)
  rw [List.length_take] at hdl
  by_cases hlt : i < xs.length
  · obtain ⟨x, hgx⟩ : ∃ x, xs[i]? = some x := ⟨_, List.getElem?_eq_getElem hlt⟩
    have hstep : dueL now (xs.take (i + 1)) = dueL now (xs.take i) ++ if x.at_ ≤ now then [x.ev] else [] := by
      simp only [dueL, List.take_add_one, hgx, Option.toList_some, List.filter_append, List.map_append]
      congr 1
      by_cases h : x.at_ ≤ now <;> simp [h]
    refine Go_with _ (fun w hm _ => hm.own_some (i := 1) rfl (ne_nil_of_lt hlt)) ?_
    rintro ⟨b2, o2, rfl⟩
    refine VC_sound tabOk 100 ?_
    refine ⟨fun _ => ?_, fun h => by first | (simp at h; done) | (simp at h; omega) | (simp_all; done)⟩
    refine ⟨⟨by omega, by omega⟩, ?_⟩
    refine Go_ops rfl (OpTo_loadRow tabOk encT_is (mkT x) rfl rfl rfl rfl rfl (fun h => by first | rfl | cases h) (fun w hm _ => hm.own_rd (i := 1) rfl) hgx (by simp only [addA]; rfl) ?_)
    refine VC_sound tabOk 100 ?_
    intro b7 _
    (repeat (first | refine Or.inl ⟨rfl, rfl, ?_⟩ | refine Or.inl ⟨rfl, ?_⟩ | refine Or.inr ?_))
    refine ⟨fun h => ?_, fun h => ?_⟩
    · rw [if_pos (by simpa using h)] at hstep
      (repeat (first | refine Or.inl ⟨rfl, rfl, ?_⟩ | refine Or.inl ⟨rfl, ?_⟩ | refine Or.inr ?_))
      intro b22 _
      show Go _ _ _ _
      refine Go_ops rfl (OpTo_append tabOk encE_is (ys := [x.ev]) (i := 2) rfl rfl rfl rfl rfl rfl rfl rfl rfl rfl rfl (fun w hm _ => hm.blk_rd (i := 0) rfl) (by simp; omega) (by simp; omega) (fun A3 c3 => ?_))
      refine VC_sound tabOk 100 ?_
      refine ⟨_, wrap_i64 (n := (i : Int) + 1) (by omega) (by omega), ?_⟩
      refine Go_fin (i + 1, A3, c3) (by dsimp only; omega) (by dsimp only; omega) ⟨rfl, ?_, rfl, rfl, rfl, trivial⟩ (fun _ h => by dsimp only; rw [hstep]; exact h.sel [2, 3] rfl)
      dsimp only; rw [hstep, List.length_append]; rfl
    · rw [if_neg (by simpa using h), List.append_nil] at hstep
      refine ⟨_, wrap_i64 (n := (i : Int) + 1) (by omega) (by omega), ?_⟩
      refine Go_fin (i + 1, A', c') (by dsimp only; omega) (by dsimp only; omega) ⟨rfl, ?_, rfl, rfl, rfl, trivial⟩ (fun _ h => by dsimp only; rw [hstep]; exact h.sel [1, 2] rfl)
      dsimp only; rw [hstep]
  refine VC_sound tabOk 100 ?_
  refine ⟨fun h => by first | (simp at h; done) | (simp at h; omega) | (simp_all; done), fun _ => ?_⟩
  have he : i = xs.length := by omega
  subst he
  rw [List.take_length]
  exact ⟨_, ⟨A', c', rfl, rfl⟩, fun _ _ h => h.sel [0] rfl⟩
theorem retry_due_nil (now : Int) (w0 : World) : Calls Tryz.prog 162 #[.pointer none, .int .i64 now] w0 fun r w' => r = .returned (.slice none 0 0) ∧ BelowD w0.heap.size w0 w' := by
  refine enterP (tab := tab) Tryz.func162 rfl Tryz.ntmps162 rfl (args := [_, _]) rfl ?_
  refine VC_sound tabOk 100 ?_
  refine Go_ops rfl (OpTo_pcall (v := .slice none 0 0) rfl rfl rfl rfl rfl (by kernel_rfl) (fun w hm _ => retry_all_nil w) ?_)
  refine VC_sound tabOk 100 ?_
  refine Go_loop (σ := Unit) (fun _ => [(5, .v (.slice none 0 0)), (10, .v (.int .i64 0)), (11, .v (.int .i64 0))]) (fun _ => []) (fun _ => True) (fun _ => 0) () trivial ⟨rfl, rfl, rfl, trivial⟩ (fun _ h => h) ?_
  rintro ⟨⟩ _
  refine VC_sound tabOk 100 ?_
  refine ⟨fun h => by first | (simp at h; done) | (simp at h; omega) | (simp_all; done), fun _ => ?_⟩
  rfl

set_option maxHeartbeats 1000000 in
theorem retry_take (b : Nat) (A : Option Addr) (c : Nat) (xs : List ItemM) (now : Int) (hl : xs.length ≤ 10000) (w0 : World) (hfs : List PH) (hm : Mod hfs (rtR b A c xs) w0) :
    Calls Tryz.prog 104 #[.pointer (some ⟨b, 0, none⟩), .int .i64 now] w0 fun r w' => ∃ v Rs', r = .returned v ∧ (∃ A1 c1 A' c', v = .slice A1 (dueL now xs).length c1 ∧ Rs' = own encE 8 65 A1 c1 (dueL now xs) :: rtR b A' c' (xs.drop (dueL now xs).length)) ∧ Mod hfs Rs' w' ∧ Oth w0 w' := by
  have hdl := dueL_len now xs
  have hcap := hm.own_le (i := 1) rfl
  refine enterN (tab := tab) Tryz.func104 rfl Tryz.ntmps104 rfl (args := [_, _]) rfl hm ?_
  refine VC_sound tabOk 100 ?_
  show Go _ _ _ _
  refine Go_ops rfl (OpTo_ncall rfl rfl rfl rfl rfl (by kernel_rfl) (fun w hm _ => retry_due b A c xs now w (hm.blk_at (i := 0) rfl) (hm.own_rd (i := 1) rfl) hl) ?_)
  rintro _ _ ⟨A1, c1, rfl, rfl⟩
  refine VC_sound tabOk 100 ?_
  refine ⟨fun h => ?_, fun h => ?_⟩
  · (repeat (first | refine Or.inl ⟨rfl, rfl, ?_⟩ | refine Or.inl ⟨rfl, ?_⟩ | refine Or.inr ?_))
    refine ⟨⟨by omega, by omega⟩, ?_⟩
    have e1 : ∀ n : Nat, xs.length - (n : Int).toNat = (xs.drop n).length := fun n => by simp
    rw [e1]
    show Go _ _ _ _
    refine Go_ops rfl (OpTo_ncall rfl rfl rfl rfl rfl (by kernel_rfl) (fun w hm _ => sl_clone_T _ _ (xs.drop (dueL now xs).length) w (RdW.drop_ encT_is (hm.own_rd (i := 2) rfl) c _ hdl hcap.1) (by simp; omega)) ?_)
    rintro _ _ ⟨A2, c2, rfl, rfl⟩
    refine VC_sound tabOk 100 ?_
    (repeat (first | refine Or.inl ⟨rfl, rfl, ?_⟩ | refine Or.inl ⟨rfl, ?_⟩ | refine Or.inr ?_))
    exact ⟨_, ⟨A1, c1, A2, c2, rfl, rfl⟩, fun _ _ h => h.sel [1, 2, 0] rfl⟩
  · have h0 : (dueL now xs).length = 0 := by have := of_decide_eq_false h; omega
    refine ⟨_, ⟨A1, c1, A, c, rfl, rfl⟩, fun _ _ h => ?_⟩
    rw [h0, List.drop_zero]
    exact h
theorem retry_take_nil (now : Int) (w0 : World) : Calls Tryz.prog 104 #[.pointer none, .int .i64 now] w0 fun r w' => r = .returned (.slice none 0 0) ∧ BelowD w0.heap.size w0 w' := by
  refine enterP (tab := tab) Tryz.func104 rfl Tryz.ntmps104 rfl (args := [_, _]) rfl ?_
  refine VC_sound tabOk 100 ?_
  refine Go_ops rfl (OpTo_pcall (v := .slice none 0 0) rfl rfl rfl rfl rfl (by kernel_rfl) (fun w hm _ => retry_due_nil now w) ?_)
  refine VC_sound tabOk 100 ?_
  refine ⟨fun h => by first | (simp at h; done) | (simp at h; omega) | (simp_all; done), fun _ => ?_⟩
  rfl

theorem perm4 (a b c d : Res) : [a, b, c, d].Perm ([d] ++ [b, c, a]) := by
  refine (List.perm_append_comm (l₁ := [a]) (l₂ := [b, c, d])).trans ?_
  refine (List.perm_append_comm (l₁ := [b, c]) (l₂ := [d, a])).trans ?_
  exact List.Perm.cons d (List.perm_append_comm (l₁ := [a]) (l₂ := [b, c]))
theorem retry_dropA (b3 : Nat) (o : ByteArray) (x : ItemM) (w0 : World) (h3 : w0.heap[b3]? = some (.cells #[.string o] 9 (0, 0))) :
    Calls Tryz.prog 164 #[mkT x, .pointer (some ⟨b3, 0, none⟩)] w0 fun r w' => r = .returned (.bool (x.ev.owner.toList == o.toList)) ∧ BelowD w0.heap.size w0 w' := by
  refine enterP (tab := tab) Tryz.func164 rfl Tryz.ntmps164 rfl (args := [_, _]) rfl ?_
  refine VC_sound tabOk 100 ?_
  intro b2 _
  (repeat (first | refine Or.inl ⟨rfl, rfl, ?_⟩ | refine Or.inl ⟨rfl, ?_⟩ | refine Or.inr ?_))
  refine Go_ops rfl (OpTo_loadBlk tabOk (cs := [.string o]) (.string o) rfl rfl rfl (fun w hm _ => hm.block_old h3) rfl ?_)
  refine VC_sound tabOk 100 ?_
  rfl
def leftL (o : ByteArray) (xs : List ItemM) : List ItemM := xs.filter fun x => !(x.ev.owner.toList == o.toList)
set_option maxHeartbeats 1000000 in
theorem retry_drop (b : Nat) (A : Option Addr) (c : Nat) (xs : List ItemM) (o : ByteArray) (hl : xs.length ≤ 10000) (w0 : World) (hfs : List PH) (hm : Mod hfs (rtR b A c xs) w0) :
    Calls Tryz.prog 106 #[.pointer (some ⟨b, 0, none⟩), .string o] w0 fun r w' => ∃ v Rs', r = .returned v ∧ (v = .int .i64 ((xs.length : Int) - (leftL o xs).length) ∧ Rs' = rtR b A c (leftL o xs)) ∧ Mod hfs Rs' w' ∧ Oth w0 w' := by
  have hll : (leftL o xs).length ≤ xs.length := List.length_filter_le _ _
  refine enterN (tab := tab) Tryz.func106 rfl Tryz.ntmps106 rfl (args := [_, _]) rfl hm ?_
  refine VC_sound tabOk 100 ?_
  intro b3 _
  show Go _ _ _ _
  refine Go_ops rfl (OpTo_ncall rfl rfl rfl rfl rfl (by kernel_rfl) (fun w hm _ => retry_all b A c xs w (hm.blk_at (i := 1) rfl) (hm.own_rd (i := 2) rfl) (by omega)) ?_)
  rintro _ _ ⟨A1, c1, rfl, rfl⟩
  refine VC_sound tabOk 100 ?_
  refine ⟨fun h => ?_, fun h => ?_⟩
  · have h0 : xs = [] := List.eq_nil_of_length_eq_zero (by have := of_decide_eq_true h; omega)
    subst h0
    exact ⟨_, ⟨rfl, rfl⟩, fun _ _ h => h.sel [2, 3] rfl⟩
  (repeat (first | refine Or.inl ⟨rfl, rfl, ?_⟩ | refine Or.inl ⟨rfl, ?_⟩ | refine Or.inr ?_))
  show Go _ _ _ _
  refine Go_ops rfl (OpTo_mcall [own encT 9 182 A c xs] [.blk b3 9 [.string o], .blk b 184 [.slice A xs.length c], own encT 9 182 A1 c1 xs] (by exact (List.Perm.of_eq rfl : List.Perm _ [own encT 9 182 A1 c1 xs, .blk b3 9 [.string o], .blk b 184 [.slice A xs.length c], own encT 9 182 A c xs]).trans (perm4 _ _ _ _)) rfl rfl rfl rfl rfl (by kernel_rfl)
    (fun w hb hm hio hsp k => sl_delete_T A c xs 164 #[] #[.pointer (some ⟨b3, 0, none⟩)] (fun x => x.ev.owner.toList == o.toList) w _ k (by omega) (by kernel_rfl) (fun x hx Rs w2 hm2 => retry_dropA b3 o x w2 ((hsp Rs w2 hm2).blk_behind (i := 0) rfl))) ?_)
  rintro _ _ ⟨rfl, rfl⟩
  refine VC_sound tabOk 100 ?_
  (repeat (first | refine Or.inl ⟨rfl, rfl, ?_⟩ | refine Or.inl ⟨rfl, ?_⟩ | refine Or.inr ?_))
  refine ⟨_, wrap_i64 (n := (xs.length : Int) - (leftL o xs).length) (by omega) (by omega), ?_⟩
  exact ⟨_, ⟨rfl, rfl⟩, fun _ _ h => h.sel [2, 0] rfl⟩
theorem retry_drop_nil (o : ByteArray) (w0 : World) : Calls Tryz.prog 106 #[.pointer none, .string o] w0 fun r w' => r = .returned (.int .i64 0) ∧ BelowD w0.heap.size w0 w' := by
  refine enterP (tab := tab) Tryz.func106 rfl Tryz.ntmps106 rfl (args := [_, _]) rfl ?_
  refine VC_sound tabOk 100 ?_
  intro b3 _
  refine Go_ops rfl (OpTo_pcall (v := .slice none 0 0) rfl rfl rfl rfl rfl (by kernel_rfl) (fun w hm _ => retry_all_nil w) ?_)
  refine VC_sound tabOk 100 ?_
  refine ⟨fun _ => ?_, fun h => by first | (simp at h; done) | (simp at h; omega) | (simp_all; done)⟩
  rfl
end Go.Proofs.YthpcahgdobnljaaGreat.Rt
