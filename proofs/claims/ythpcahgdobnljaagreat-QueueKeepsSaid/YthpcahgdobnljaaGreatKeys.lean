/- Sorting of few, and the keys of a map. -/
import Derived.Test.YthpcahgdobnljaaGreatSl64
import Derived.Test.YthpcahgdobnljaaGreatRxB
set_option maxRecDepth 100000
set_option autoImplicit false
set_option linter.unusedVariables false
namespace Go.Proofs.YthpcahgdobnljaaGreat
open Go.RX Go Go.RowKit

def encS : ByteArray → List Value := fun x => [.string x]
theorem encS_is : IsEnc encS 1 := ⟨fun _ => rfl, fun x v hv => by simp [encS] at hv; subst hv; rfl, by decide⟩


theorem cmp_nan_S (x : ByteArray) (w0 : World) : Calls Tryz.prog 187 #[Value.string x] w0 fun e w' => e = .returned (.bool false) ∧ BelowD w0.heap.size w0 w' := by
  refine enterP (tab := tab) Tryz.func187 rfl Tryz.ntmps187 rfl (args := [_]) rfl ?_
  refine VC_sound tabOk 100 ?_
  exact congrArg Value.bool (by simp)

theorem cmp_less_S (x y : ByteArray) (w0 : World) : Calls Tryz.prog 197 #[Value.string x, Value.string y] w0 fun e w' => e = .returned (.bool (ltS x y)) ∧ BelowD w0.heap.size w0 w' := by
  refine enterP (tab := tab) Tryz.func197 rfl Tryz.ntmps197 rfl (args := [_, _]) rfl ?_
  refine VC_sound tabOk 100 ?_
  refine Go_ops rfl (OpTo_pcall (v := .bool false) rfl rfl rfl rfl rfl (by kernel_rfl) (fun w hm _ => cmp_nan_S x w) ?_)
  refine VC_sound tabOk 100 ?_
  refine ⟨fun h => by simp at h, fun _ => ?_⟩
  rfl

set_option maxHeartbeats 2000000 in
theorem sl_insertion_S (A : Option Addr) (c : Nat) (xs : List ByteArray) (w0 : World) (hfs : List PH) (hm : Mod hfs [own encS 1 9 A c xs] w0) (hn : xs.length ≤ 1000000) :
    Calls Tryz.prog 191 #[.slice A xs.length c, .int .i64 0, .int .i64 xs.length] w0 fun e w' => ∃ v Rs', e = .returned v ∧ (v = .tuple #[] ∧ ∃ ys, SameBy (fun x => x) xs ys ∧ Rise ltS (fun x => x) ys ∧ ys.length = xs.length ∧ Rs' = [own encS 1 9 A c ys]) ∧ Mod hfs Rs' w' ∧ Oth w0 w' := by
  refine enterN (tab := tab) Tryz.func191 rfl Tryz.ntmps191 rfl (args := [_, _, _]) rfl hm ?_
  refine VC_sound tabOk 100 ?_
  refine ⟨_, wrap_i64 (n := 0 + 1) (by omega) (by omega), ?_⟩
  refine Go_loop (σ := Nat × List ByteArray) (fun s => [(0, .v (.slice A xs.length c)), (1, .v (.int .i64 0)), (2, .v (.int .i64 xs.length)), (6, .v (.int .i64 s.1))]) (fun s => [own encS 1 9 A c s.2]) (fun s => Upto ltS (fun x => x) xs s.2 s.1 ∧ 1 ≤ s.1 ∧ s.1 ≤ xs.length + 1) (fun s => xs.length + 1 - s.1) (1, xs) ⟨Upto.start xs, by omega, by omega⟩ ⟨rfl, rfl, rfl, rfl, trivial⟩ (fun _ h => h) ?_
  rintro ⟨i, ys⟩ ⟨hu, hi1, hi2⟩
  dsimp only at hu hi1 hi2 ⊢
  have hyl := hu.len
  refine VC_sound tabOk 100 ?_
  refine ⟨fun hb => ?_, fun hb => ?_⟩
  · have hlt : i < xs.length := by simp at hb; omega
    refine Go_loop (σ := Nat × List ByteArray) (fun s => [(0, .v (.slice A xs.length c)), (1, .v (.int .i64 0)), (2, .v (.int .i64 xs.length)), (6, .v (.int .i64 i)), (7, .v (.int .i64 s.1))]) (fun s => [own encS 1 9 A c s.2]) (fun s => Ins ltS (fun x => x) xs s.2 i s.1) (fun s => s.1) (i, ys) (hu.ins (by omega)) ⟨rfl, rfl, rfl, rfl, rfl, trivial⟩ (fun _ h => h) ?_
    rintro ⟨j, zs⟩ hI
    dsimp only at hI ⊢
    have hzl := hI.len
    have hji := hI.le
    refine VC_sound tabOk 100 ?_
    refine Go_with _ (fun w hm _ => hm.own_some (i := 0) rfl (ne_nil_of_lt (by omega : 0 < zs.length))) ?_
    rintro ⟨b, o, rfl⟩
    show Go _ _ _ _
    refine Go_any mixed [13] [(0, false), (1, false), (2, false), (3, false), (4, false), (5, false), (6, false), (8, false), (9, false), (10, false), (11, false), (7, false), (12, false), (13, true), (14, false)] rfl (by kernel_rfl) (by kernel_rfl) [] (fun w => RdW w (some ⟨b, o, none⟩) (zs.flatMap encS)) (fun w w' hk h => h.old hk) (fun w hm _ => ⟨trivial, by exact Mod.own_rd (k := 1) (T := 9) (c := c) (i := 0) hm rfl⟩) ?_
    refine VC_sound tabOk 100 ?_
    refine ⟨fun hj => ?_, fun hj => ?_⟩
    · have h0 : 0 < j := by simpa using hj
      have hjl : j < zs.length := by omega
      have hidx : ((j : Int) - 1).toNat = j - 1 := by omega
      refine ⟨⟨by omega, by omega⟩, ?_⟩
      refine ⟨_, wrap_i64 (n := (j : Int) - 1) (by omega) (by omega), ?_⟩
      refine ⟨⟨by omega, by omega⟩, ?_⟩
      refine Go_first (v := Value.string zs[j]) rfl rfl rfl rfl (fun w _ hw => rxLoadRow tabOk rfl encS_is rfl (fun h => rfl) hw (List.getElem?_eq_getElem hjl) (by simp only [addA]; rfl) rfl) ?_
      refine VC_sound tabOk 100 ?_
      refine Go_first (v := Value.string zs[j - 1]) rfl rfl rfl rfl (fun w _ hw => rxLoadRow tabOk rfl encS_is rfl (fun h => rfl) hw (List.getElem?_eq_getElem (by omega)) (by simp only [addA, hidx]) rfl) ?_
      refine VC_sound tabOk 100 ?_
      refine Go_aloneM rfl rfl rfl (OpTo_pcall (v := .bool (ltS zs[j] zs[j - 1])) rfl rfl rfl rfl rfl (by kernel_rfl) (fun w hm _ => cmp_less_S zs[j] zs[j - 1] w) ?_)
      refine VC_sound tabOk 100 ?_
      refine ⟨fun hl => ?_, fun hl => ?_⟩
      · have hI2 := hI.swap ordS h0 hjl hl
        show Go _ _ _ _
        refine Go_any mixed [15, 17] [(0, false), (1, false), (2, false), (3, false), (4, false), (5, false), (6, false), (7, false), (8, false), (10, false), (11, false), (12, false), (9, false), (13, false), (14, false), (15, true), (16, false), (17, true)] rfl (by kernel_rfl) (by kernel_rfl) [] (fun w => RdW w (some ⟨b, o, none⟩) (zs.flatMap encS)) (fun w w' hk h => h.old hk) (fun w hm _ => ⟨trivial, by exact Mod.own_rd (k := 1) (T := 9) (c := c) (i := 0) hm rfl⟩) ?_
        refine VC_sound tabOk 100 ?_
        refine ⟨_, wrap_i64 (n := (j : Int) - 1) (by omega) (by omega), ?_⟩
        refine ⟨_, wrap_i64 (n := (j : Int) - 1) (by omega) (by omega), ?_⟩
        refine ⟨⟨by omega, by omega⟩, ?_⟩
        refine ⟨⟨by omega, by omega⟩, ?_⟩
        refine Go_first (v := Value.string zs[j - 1]) rfl rfl rfl rfl (fun w _ hw => rxLoadRow tabOk rfl encS_is rfl (fun h => rfl) hw (List.getElem?_eq_getElem (by omega)) (by simp only [addA, hidx]) rfl) ?_
        refine VC_sound tabOk 100 ?_
        refine Go_first (v := Value.string zs[j]) rfl rfl rfl rfl (fun w _ hw => rxLoadRow tabOk rfl encS_is rfl (fun h => rfl) hw (List.getElem?_eq_getElem hjl) (by simp only [addA]; rfl) rfl) ?_
        refine VC_sound tabOk 100 ?_
        refine ⟨⟨by omega, by omega⟩, ?_⟩
        show Go _ _ _ _
        refine Go_aloneM rfl rfl rfl (OpTo_storeRow tabOk encS_is (n := j) (u := zs[j - 1]) 0 rfl rfl rfl rfl rfl rfl rfl hjl (by simp only [addA]; rfl) rfl ?_)
        refine VC_sound tabOk 100 ?_
        refine ⟨⟨by omega, by omega⟩, ?_⟩
        show Go _ _ _ _
        refine Go_aloneM rfl rfl rfl (OpTo_storeRow tabOk encS_is (n := j - 1) (u := zs[j]) (xs := zs.set j zs[j - 1]) 0 rfl rfl rfl rfl rfl rfl rfl (by simp; omega) (by simp only [addA, hidx]) rfl ?_)
        refine VC_sound tabOk 100 ?_
        refine ⟨_, wrap_i64 (n := (j : Int) - 1) (by omega) (by omega), ?_⟩
        exact Go_fin (j - 1, (zs.set j zs[j - 1]).set (j - 1) zs[j]) hI2 (by simp; omega) ⟨rfl, rfl, rfl, rfl, congrArg (Value.int .i64) (by omega), trivial⟩ (fun _ h => h)
      · have hU := hI.done ordS (.inr ⟨h0, hjl, hl⟩)
        refine ⟨_, wrap_i64 (n := (i : Int) + 1) (by omega) (by omega), ?_⟩
        exact Go_fin (i + 1, zs) ⟨hU, by omega, by omega⟩ (by simp; omega) ⟨rfl, rfl, rfl, rfl, trivial⟩ (fun _ h => h)
    · have h0 : j = 0 := by simp at hj; omega
      have hU := hI.done ordS (.inl h0)
      refine ⟨_, wrap_i64 (n := (i : Int) + 1) (by omega) (by omega), ?_⟩
      exact Go_fin (i + 1, zs) ⟨hU, by omega, by omega⟩ (by simp; omega) ⟨rfl, rfl, rfl, rfl, trivial⟩ (fun _ h => h)
  · have hge : xs.length ≤ i := by simp at hb; omega
    exact ⟨_, ⟨rfl, ys, hu.same, hu.rise (by omega), hyl, rfl⟩, fun _ _ h => h⟩

theorem bits_len64_S (x : Int) (w0 : World) (hx : 0 ≤ x ∧ x ≤ 255) : Calls Tryz.prog 201 #[.int .u64 x] w0 fun e w' => ∃ v Rs', e = .returned v ∧ ((∃ n, v = .int .i64 n) ∧ Rs' = []) ∧ Mod [heapOf w0] Rs' w' ∧ Oth w0 w' := by
  refine enterN (tab := tab) Tryz.func201 rfl Tryz.ntmps201 rfl (args := [_]) rfl (Mod.start w0) ?_
  refine VC_sound tabOk 100 ?_
  refine ⟨fun h => by simp at h; omega, fun _ => ?_⟩
  refine ⟨fun h => by simp at h; omega, fun _ => ?_⟩
  refine ⟨fun h => by simp at h; omega, fun _ => ?_⟩
  refine ⟨_, wrap_u8 (n := x) (by omega) (by omega), ?_⟩
  refine ⟨by omega, ex_byte (by kernel_rfl) (by omega) (fun b => ?_)⟩
  refine ⟨_, rfl, ?_⟩
  refine ⟨_, rfl, ?_⟩
  exact ⟨_, ⟨⟨_, rfl⟩, rfl⟩, fun _ _ h => h⟩

theorem bits_len_S (x : Int) (w0 : World) (hx : 0 ≤ x ∧ x ≤ 255) : Calls Tryz.prog 176 #[.int .u64 x] w0 fun e w' => ∃ v Rs', e = .returned v ∧ ((∃ n, v = .int .i64 n) ∧ Rs' = []) ∧ Mod [heapOf w0] Rs' w' ∧ Oth w0 w' := by
  refine enterN (tab := tab) Tryz.func176 rfl Tryz.ntmps176 rfl (args := [_]) rfl (Mod.start w0) ?_
  refine VC_sound tabOk 100 ?_
  show Go _ _ _ _
  refine Go_ops rfl (OpTo_ncall rfl rfl rfl rfl rfl (by kernel_rfl) (fun w hm _ => bits_len64_S x w hx) ?_)
  rintro _ _ ⟨⟨n, rfl⟩, rfl⟩
  refine VC_sound tabOk 100 ?_
  exact ⟨_, ⟨⟨_, rfl⟩, rfl⟩, fun _ _ h => h⟩

theorem sl_pdq_S (A : Option Addr) (c : Nat) (xs : List ByteArray) (lim : Int) (w0 : World) (hfs : List PH) (hm : Mod hfs [own encS 1 9 A c xs] w0) (hn : xs.length ≤ 12) :
    Calls Tryz.prog 175 #[.slice A xs.length c, .int .i64 0, .int .i64 xs.length, .int .i64 lim] w0 fun e w' => ∃ v Rs', e = .returned v ∧ (v = .tuple #[] ∧ ∃ ys, SameBy (fun x => x) xs ys ∧ Rise ltS (fun x => x) ys ∧ ys.length = xs.length ∧ Rs' = [own encS 1 9 A c ys]) ∧ Mod hfs Rs' w' ∧ Oth w0 w' := by
  refine enterN (tab := tab) Tryz.func175 rfl Tryz.ntmps175 rfl (args := [_, _, _, _]) rfl hm ?_
  refine VC_sound tabOk 100 ?_
  refine Go_loop (σ := Unit) (fun _ => [(0, .v (.slice A xs.length c)), (1, .v (.int .i64 0)), (2, .v (.int .i64 xs.length)), (3, .v (.int .i64 lim))]) (fun _ => [own encS 1 9 A c xs]) (fun _ => True) (fun _ => 0) () trivial ⟨rfl, rfl, rfl, rfl, trivial⟩ (fun _ h => h) ?_
  rintro ⟨⟩ _
  refine VC_sound tabOk 100 ?_
  refine ⟨_, wrap_i64 (n := (xs.length : Int) - 0) (by omega) (by omega), ?_⟩
  refine ⟨fun _ => ?_, fun h => by simp at h; omega⟩
  show Go _ _ _ _
  refine Go_ops rfl (OpTo_mcall [own encS 1 9 A c xs] [] (List.Perm.of_eq (by simp)) rfl rfl rfl rfl rfl (by kernel_rfl) (fun w hb hm hio hsp k => sl_insertion_S A c xs w _ k (by omega)) ?_)
  rintro _ _ ⟨rfl, ys, h1, h2, h3, rfl⟩
  refine VC_sound tabOk 100 ?_
  exact ⟨_, ⟨rfl, ys, h1, h2, h3, rfl⟩, fun _ _ h => h⟩

theorem sl_sort_S (A : Option Addr) (c : Nat) (xs : List ByteArray) (w0 : World) (hfs : List PH) (hm : Mod hfs [own encS 1 9 A c xs] w0) (hn : xs.length ≤ 12) :
    Calls Tryz.prog 133 #[.slice A xs.length c] w0 fun e w' => ∃ v Rs', e = .returned v ∧ (v = .tuple #[] ∧ ∃ ys, SameBy (fun x => x) xs ys ∧ Rise ltS (fun x => x) ys ∧ ys.length = xs.length ∧ Rs' = [own encS 1 9 A c ys]) ∧ Mod hfs Rs' w' ∧ Oth w0 w' := by
  refine enterN (tab := tab) Tryz.func133 rfl Tryz.ntmps133 rfl (args := [_]) rfl hm ?_
  refine VC_sound tabOk 100 ?_
  refine ⟨_, wrap_u64 (n := (xs.length : Int)) (by omega) (by omega), ?_⟩
  show Go _ _ _ _
  refine Go_ops rfl (OpTo_ncall rfl rfl rfl rfl rfl (by kernel_rfl) (fun w hm _ => bits_len_S xs.length w (by omega)) ?_)
  rintro _ _ ⟨⟨lim, rfl⟩, rfl⟩
  refine VC_sound tabOk 100 ?_
  show Go _ _ _ _
  refine Go_ops rfl (OpTo_mcall [own encS 1 9 A c xs] [] (List.Perm.of_eq (by simp)) rfl rfl rfl rfl rfl (by kernel_rfl) (fun w hb hm hio hsp k => sl_pdq_S A c xs lim w _ k hn) ?_)
  rintro _ _ ⟨rfl, ys, h1, h2, h3, rfl⟩
  refine VC_sound tabOk 100 ?_
  exact ⟨_, ⟨rfl, ys, h1, h2, h3, rfl⟩, fun _ _ h => h⟩


theorem maps_keys_S (b : Nat) (w0 : World) : Calls Tryz.prog 73 #[.map (some b)] w0 fun e w' => ∃ v Rs', e = .returned v ∧ (∃ bc, v = .func (.func 134) #[] #[.pointer (some ⟨bc, 0, none⟩)] ∧ Rs' = [.blk bc 124 [.map (some b)]]) ∧ Mod [heapOf w0] Rs' w' ∧ Oth w0 w' := by
  refine enterN (tab := tab) Tryz.func73 rfl Tryz.ntmps73 rfl (args := [_]) rfl (Mod.start w0) ?_
  refine VC_sound tabOk 100 ?_
  intro b1 _
  exact ⟨_, ⟨b1, rfl, rfl⟩, fun _ _ h => h⟩

set_option maxHeartbeats 1000000 in
theorem keys_iter_S {ν : Type} (vE : ν → Value) (b bc Lp M : Nat) (al : List (ByteArray × ν)) (J : List ByteArray → List Res → Prop) (hy : RoundsTo Tryz.prog Lp M Value.string J) (hM : al.length ≤ M) (Rj : List Res) (hJ : J [] Rj) (w0 : World) (hfs : List PH)
    (hm : Mod hfs ([.blk bc 124 [.map (some b)], mpR Value.string vE b al] ++ Rj) w0) :
    Calls Tryz.prog 134 #[.func (.yield Lp) #[] #[], .pointer (some ⟨bc, 0, none⟩)] w0 fun e w' => ∃ v Rs', e = .returned v ∧ (v = .tuple #[] ∧ ∃ ks Rj', ks.Perm (keys al) ∧ J ks Rj' ∧ Rs' = [.blk bc 124 [.map (some b)], mpR Value.string vE b al] ++ Rj') ∧ Mod hfs Rs' w' ∧ Oth w0 w' := by
  refine enterN (tab := tab) Tryz.func134 rfl Tryz.ntmps134 rfl (args := [_, _]) rfl hm ?_
  refine VC_sound tabOk 100 ?_
  (repeat (first | refine Or.inl ⟨rfl, rfl, ?_⟩ | refine Or.inl ⟨rfl, ?_⟩ | refine Or.inr ?_))
  refine Go_ops rfl (OpTo_range tabOk (kE := Value.string) (vE := vE) (al := al) (b := b) 1 rfl rfl rfl rfl ?_)
  intro bi _
  refine VC_sound tabOk 100 ?_
  refine Go_loop (σ := List ByteArray × List (ByteArray × ν) × Option (ByteArray × ν) × List Res) (fun s => [(0, .v (.func (.yield Lp) #[] #[])), (5, .v (.pointer (some ⟨bi, 0, none⟩)))]) (fun s => [.blk bc 124 [.map (some b)], mpItR Value.string vE b bi al s.2.1 s.2.2.1] ++ s.2.2.2)
    (fun s => J s.1 s.2.2.2 ∧ (s.1 ++ keys s.2.1).Perm (keys al)) (fun s => s.2.1.length) ([], al, none, Rj) ⟨hJ, by simp⟩ ⟨rfl, rfl, trivial⟩ (fun _ h => h) ?_
  rintro ⟨pre, todo, last, Rj1⟩ ⟨hJ1, hp⟩
  dsimp only at hJ1 hp ⊢
  refine VC_sound tabOk 100 ?_
  refine Go_ops rfl (OpTo_next (kE := Value.string) (vE := vE) (al := al) (todo := todo) (b := b) 1 rfl rfl rfl (fun h0 => ?_) (fun t1 p t2 h1 => ?_))
  · refine VC_sound tabOk 100 ?_
    refine ⟨fun h => by simp at h, fun _ => ?_⟩
    subst h0
    exact ⟨_, ⟨rfl, pre, Rj1, by simpa using hp, hJ1, rfl⟩, fun _ _ h => h.itEnd (i := 1) rfl⟩
  · refine VC_sound tabOk 100 ?_
    refine ⟨fun _ => ?_, fun h => by simp at h⟩
    refine Go_ops rfl (OpTo_entry (kE := Value.string) (vE := vE) (al := al) (b := b) p 1 rfl rfl rfl ?_)
    subst h1
    have hlen : pre.length < M := by
      have := hp.length_eq
      simp at this; omega
    refine VC_sound tabOk 4 ?_
    refine Go_regionIn ?_
    refine OpsTo_cons rfl rfl (OpTo_do tabOk ?_)
    refine OpsTo_cons rfl rfl (OpTo_do tabOk ?_)
    refine OpsTo_yield (Qc := fun v Rs' => v = .bool true ∧ ∃ Rj', J (pre ++ [p.1]) Rj' ∧ Rs' = [.blk bc 124 [.map (some b)], mpItR Value.string vE b bi al (t1 ++ t2) (some p)] ++ Rj') rfl rfl rfl rfl rfl (fun w hm hio => ?_) ?_
    · obtain ⟨hb, k1, k2⟩ := (hm.permRs (List.perm_append_comm (l₁ := [.blk bc 124 [.map (some b)], mpItR Value.string vE b bi al (t1 ++ t2) (some p)]) (l₂ := Rj1))).split
      obtain ⟨r, h1, h2, h3⟩ := hy _ pre Rj1 w p.1 hlen hJ1 k1
      refine ⟨r, h1, h2, h3.mono ?_⟩
      rintro e w' ⟨v, Rs', rfl, ⟨rfl, hJ'⟩, hm', hio'⟩
      exact ⟨_, _, rfl, ⟨rfl, Rs', hJ', rfl⟩, (k2 _ _ hm').permRs List.perm_append_comm, hio'⟩
    rintro _ _ ⟨rfl, Rj', hJ', rfl⟩
    refine OpsTo_cons rfl rfl (OpTo_do tabOk ?_)
    refine OpsTo_nil ?_
    refine VC_sound tabOk 100 ?_
    refine ⟨fun h => by simp at h, fun _ => ?_⟩
    refine Go_fin (pre ++ [p.1], t1 ++ t2, some p, Rj') ⟨hJ', ?_⟩ (by simp) ⟨rfl, rfl, trivial⟩ (fun _ h => h)
    refine List.Perm.trans ?_ hp
    simp only [keys, List.map_append, List.map_cons, List.append_assoc, List.singleton_append]
    exact List.Perm.append_left pre List.perm_middle.symm

def collJ_S (Lp b2 D : Nat) (r : Loop) (pre : List ByteArray) (Rs : List Res) : Prop := ∃ A c, Rs = [loopR Lp r, .blk b2 119 [.slice A pre.length c], own encS 1 9 A c pre, defR D]

set_option maxHeartbeats 1000000 in
theorem coll_rounds_S (Lp b2 D : Nat) (fn : FuncId) (tmps : Array Value) (htm : Fr Tryz.f174.ntmps { tmps := tmps, defers := [] } [(2, .v (.pointer (some ⟨b2, 0, none⟩)))]) : RoundsTo Tryz.prog Lp 1000 Value.string (collJ_S Lp b2 D (loopOf Tryz.f174.body #[7] fn tmps D)) := by
  rintro hfs pre Rj w k hlt ⟨A, c, rfl⟩ hm
  refine ⟨loopOf Tryz.f174.body #[7] fn tmps D, hm.loop_at (i := 0) rfl, rfl, ?_⟩
  have hz : ((loopOf Tryz.f174.body #[7] fn tmps D).params.zip #[Value.string k]).foldl (fun tmps (t, a) => tmps.setIfInBounds t a) (loopOf Tryz.f174.body #[7] fn tmps D).tmps = tmps.setIfInBounds 7 (Value.string k) := by simp [loopOf]
  have hfr : Fr Tryz.f174.ntmps { tmps := tmps.setIfInBounds 7 (Value.string k), defers := [] } [(7, .v (Value.string k)), (2, .v (.pointer (some ⟨b2, 0, none⟩)))] := htm.put (d := 7) (by decide) (.v (Value.string k))
  rw [hz]
  refine RoundIn.mono (roundIn_regions (tab := tab) (KR := fun Rs => ∃ x Rs', Rs = x :: Rs' ∧ collJ_S Lp b2 D (loopOf Tryz.f174.body #[7] fn tmps D) (pre ++ [k]) Rs') (i := 0) hm rfl rfl hfr ?_) ?_
  · refine OpsTo_cons rfl rfl (OpTo_do tabOk ?_)
    refine OpsTo_nil ⟨rfl, ?_⟩
    refine OpsTo_cons rfl rfl (OpTo_do tabOk ?_)
    (repeat (first | refine Or.inl ⟨rfl, rfl, ?_⟩ | refine Or.inl ⟨rfl, ?_⟩ | refine Or.inr ?_))
    refine OpsTo_cons rfl rfl (OpTo_do tabOk ?_)
    refine OpsTo_cons rfl rfl (OpTo_do tabOk ?_)
    intro b10 _
    refine OpsTo_cons rfl rfl (OpTo_append tabOk encS_is (ys := [k]) (i := 3) rfl rfl rfl rfl rfl rfl rfl rfl rfl rfl rfl (fun w hm _ => hm.blk_rd (i := 0) rfl) (by simp; omega) (by simp; omega) (fun A2 c2 => ?_))
    refine OpsTo_cons rfl rfl (OpTo_do tabOk ?_)
    (repeat (first | refine Or.inl ⟨rfl, rfl, ?_⟩ | refine Or.inl ⟨rfl, ?_⟩ | refine Or.inr ?_))
    refine OpsTo_nil ⟨1, _, rfl, _, _, rfl, A2, c2, ?_⟩
    have e : (pre ++ [k]).length = pre.length + 1 := by simp
    rw [e]
    rfl
  · rintro e w' ⟨v, Rs', rfl, ⟨rfl, x, Rs2, rfl, hJ⟩, hm', hio'⟩
    exact ⟨_, _, rfl, ⟨rfl, hJ⟩, hm'.drop (a := [x]), hio'⟩

set_option maxHeartbeats 2000000 in
theorem app_seq_S {ν : Type} (vE : ν → Value) (b bc : Nat) (al : List (ByteArray × ν)) (hal : al.length ≤ 1000) (w0 : World) (hfs : List PH) (hm : Mod hfs [.blk bc 124 [.map (some b)], mpR Value.string vE b al] w0) :
    Calls Tryz.prog 174 #[.slice none 0 0, .func (.func 134) #[] #[.pointer (some ⟨bc, 0, none⟩)]] w0 fun e w' => ∃ v Rs', e = .returned v ∧ (∃ A c ks, ks.Perm (keys al) ∧ v = .slice A ks.length c ∧ Rs' = [own encS 1 9 A c ks, .blk bc 124 [.map (some b)], mpR Value.string vE b al]) ∧ Mod hfs Rs' w' ∧ Oth w0 w' := by
  let E : Env := { P := Tryz.prog, tab := tab, N := Tryz.f174.ntmps, res := [], hfs := hfs, w0 := w0, post := fun _ _ => False }
  have hf0 := Fr.args (N := Tryz.f174.ntmps) (args := [.slice none 0 0, .func (.func 134) #[] #[.pointer (some ⟨bc, 0, none⟩)]]) (Nat.le_of_ble_eq_true rfl)
  refine (callsIn_wide (n := 9)).1 (callsIn_of_wp_marks Tryz.func174 rfl trivial ?_)
  refine wpIn_seq (wpIn_region_list ((show OpsTo E none _ _ _ _ (fun l' Rs' => ∃ b2, subL [(1, .v (.func (.func 134) #[] #[.pointer (some ⟨bc, 0, none⟩)])), (2, .v (.pointer (some ⟨b2, 0, none⟩)))] l' ∧ Rs' = [.blk b2 119 [.slice none 0 0], .blk bc 124 [.map (some b)], mpR Value.string vE b al]) from ?_) _ ?_ _ w0 hf0 hm (Oth.refl w0)))
  · refine OpsTo_cons rfl rfl (OpTo_do tabOk ?_)
    intro b2 _
    refine OpsTo_cons rfl rfl (OpTo_do tabOk ?_)
    exact OpsTo_nil ⟨b2, ⟨rfl, rfl, trivial⟩, rfl⟩
  rintro l1 Rs1 a1 w1 ⟨b2, hs1, rfl⟩ hf1 hm1 hio1
  have hf1 := subL_sound hs1 hf1
  refine wpIn_seq (wpIn_seq (wpIn_region_list ((show OpsTo E none _ _ _ _ (fun l' Rs' => subL [(2, .v (.pointer (some ⟨b2, 0, none⟩))), (6, .v (.func (.func 134) #[] #[.pointer (some ⟨bc, 0, none⟩)]))] l' ∧ Rs' = [.blk b2 119 [.slice none 0 0], .blk bc 124 [.map (some b)], mpR Value.string vE b al]) from ?_) _ ?_ a1 w1 hf1 hm1 hio1)))
  · refine OpsTo_cons rfl rfl (OpTo_do tabOk ?_)
    exact OpsTo_nil ⟨⟨rfl, rfl, trivial⟩, rfl⟩
  rintro l2 Rs2 a2 w2 ⟨hs2, rfl⟩ hf2 hm2 hio2
  have hf2 := subL_sound hs2 hf2
  refine wpIn_block (wpIn_rangeFunc fun fn _ => ?_)
  have hsz : (w2.alloc (.deferred (some []))).heap.size = w2.heap.size + 1 := by simp [World.size_alloc]
  have hmA := (hm2.newObj (.deferred (some []))).newObj (.loop (loopOf Tryz.f174.body #[7] fn a2.tmps w2.heap.size))
  rw [hsz] at hmA
  obtain ⟨d, hd1, hd2⟩ := run_rangeCall (P := Tryz.prog) (a := a2) (g := .tmp 6) (f := 134) (cap := #[.pointer (some ⟨bc, 0, none⟩)]) (Lp := w2.heap.size + 1) (w := (w2.alloc (.deferred (some []))).alloc (.loop (loopOf Tryz.f174.body #[7] fn a2.tmps w2.heap.size))) (ev_sound (x := .tmp 6) (s := .v (.func (.func 134) #[] #[.pointer (some ⟨bc, 0, none⟩)])) hf2 rfl) (by kernel_rfl)
  refine ⟨w2.heap.size + 1, _, _, d, _, _, _, _, run_enterLoop_outer fn a2.tmps _ _ _, hd1, fun _ _ => trivial, hd2, fun h => (by cases h), callsIn_wide.2 ?_⟩
  have htm : Fr Tryz.f174.ntmps { tmps := a2.tmps, defers := [] } [(2, .v (.pointer (some ⟨b2, 0, none⟩)))] := by
    have h := subL_sound (l' := [(2, .v (.pointer (some ⟨b2, 0, none⟩)))]) (by exact ⟨rfl, trivial⟩) hf2
    exact ⟨rfl, h.size, h.at_⟩
  have hmB : Mod hfs ([.blk bc 124 [.map (some b)], mpR Value.string vE b al] ++ [loopR (w2.heap.size + 1) (loopOf Tryz.f174.body #[7] fn a2.tmps w2.heap.size), .blk b2 119 [.slice none 0 0], own encS 1 9 none 0 [], defR w2.heap.size]) _ := (hmA.own_nil (enc := encS) (k := 1) (T := 9) none).sel [4, 5, 1, 3, 0, 2] rfl
  refine (keys_iter_S vE b bc (w2.heap.size + 1) 1000 al (collJ_S (w2.heap.size + 1) b2 w2.heap.size (loopOf Tryz.f174.body #[7] fn a2.tmps w2.heap.size)) (coll_rounds_S _ _ _ _ _ htm) hal _ ⟨none, 0, rfl⟩ _ hfs hmB).mono ?_
  rintro e w3 ⟨v, Rs3, rfl, ⟨rfl, ks, Rj', hp, ⟨A, c, rfl⟩, rfl⟩, hm3, hio3⟩
  refine ⟨none, _, run_endLoop (hm3.loop_at (i := 2) rfl) (by simp [loopOf]), ?_⟩
  have hm4 := hm3.setLoop { loopOf Tryz.f174.body #[7] fn a2.tmps w2.heap.size with state := .exhausted } (i := 2) rfl
  have hm5 : Mod hfs [defR w2.heap.size, .blk b2 119 [.slice A ks.length c], own encS 1 9 A c ks, .blk bc 124 [.map (some b)], mpR Value.string vE b al] _ := hm4.sel [5, 3, 4, 0, 1] rfl
  have hz : ({ a2 with defers := [{ target := .collected w2.heap.size, args := #[] }] ++ a2.defers } : Act) = { a2 with defers := [{ target := .collected w2.heap.size, args := #[] }] } := by rw [hf2.defers]; rfl
  show (Code.seq _ _).wpIn _ _ _ _ _ _
  rw [hz]
  have hev : ({ a2 with defers := [{ target := .collected w2.heap.size, args := #[] }] } : Act).eval (.tmp 2) = .pointer (some ⟨b2, 0, none⟩) := hf2.eval _ (x := .tmp 2) (s := .v (.pointer (some ⟨b2, 0, none⟩))) rfl
  have hld : ∀ w, Mod hfs [defR w2.heap.size, .blk b2 119 [.slice A ks.length c], own encS 1 9 A c ks, .blk bc 124 [.map (some b)], mpR Value.string vE b al] w → (loadVar 119 ⟨b2, 0, none⟩).run Tryz.prog w = .ok (.slice A ks.length c) w := fun w h => run_loadVar_at tabOk rfl (h.blk_at (i := 1) rfl) rfl
  refine wpIn_seq (wpIn_region_list (wpListIn_val0 (fun _ => trivial) rfl rfl (v := .slice A ks.length c) ?_ (wpListIn_val0 (fun _ => trivial) rfl rfl (v := .slice A ks.length c) ?_ (wpListIn_nil ?_))))
  · simp only [execOp, hev, Instr.loadAt, Instr.sureAddr, Sem.run_bind, Sem.run_pure, Result.andThen_ok, hld _ hm5]
  · have e12 : Act.eval (({ a2 with defers := [{ target := .collected w2.heap.size, args := #[] }] } : Act).put (some 12) (.slice A ks.length c)) (.tmp 12) = .slice A ks.length c := (hf2.put (d := 12) (Nat.le_of_ble_eq_true rfl) (.v (.slice A ks.length c))).eval _ (x := .tmp 12) (s := .v (.slice A ks.length c)) rfl
    simp only [execOp, e12]
    rfl
  · show Code.ret.wpIn _ _ _ _ _ _
    refine wpIn_ret ⟨by simp, .inl ⟨_, _, rfl, run_takeDeferred (hm5.def_at (i := 0) rfl), LeavesIn_end (v := .slice A ks.length c) ?_ ?_⟩⟩
    · have h4 := ((hf2.put (d := 12) (Nat.le_of_ble_eq_true rfl) (.v (.slice A ks.length c))).put (d := 4) (Nat.le_of_ble_eq_true rfl) (.v (.slice A ks.length c))).at_ 4 _ rfl
      refine (results_tmp (fn := Tryz.f174) rfl _ _ _).trans ?_
      rw [Array.getD_eq_getD_getElem?]
      exact congrArg (fun v => Result.ok v _) (congrArg (fun x => Option.getD x undef) h4)
    · exact ⟨_, _, rfl, ⟨A, c, ks, hp, rfl, rfl⟩, (hm5.putDropped (.deferred none)).sel [1, 2, 3] rfl, hio2.trans ((Oth.push _ _).trans ((Oth.push _ _).trans (hio3.trans ((Oth.put _ _ _).trans (Oth.put _ _ _)))))⟩

theorem sl_collect_S {ν : Type} (vE : ν → Value) (b bc : Nat) (al : List (ByteArray × ν)) (hal : al.length ≤ 1000) (w0 : World) (hfs : List PH) (hm : Mod hfs [.blk bc 124 [.map (some b)], mpR Value.string vE b al] w0) :
    Calls Tryz.prog 132 #[.func (.func 134) #[] #[.pointer (some ⟨bc, 0, none⟩)]] w0 fun e w' => ∃ v Rs', e = .returned v ∧ (∃ A c ks, ks.Perm (keys al) ∧ v = .slice A ks.length c ∧ Rs' = [own encS 1 9 A c ks, .blk bc 124 [.map (some b)], mpR Value.string vE b al]) ∧ Mod hfs Rs' w' ∧ Oth w0 w' := by
  refine enterN (tab := tab) Tryz.func132 rfl Tryz.ntmps132 rfl (args := [_]) rfl hm ?_
  refine VC_sound tabOk 100 ?_
  show Go _ _ _ _
  refine Go_ops rfl (OpTo_mcall [.blk bc 124 [.map (some b)], mpR Value.string vE b al] [] (List.Perm.of_eq (by simp)) rfl rfl rfl rfl rfl (by kernel_rfl) (fun w hb hm hio hsp k => app_seq_S vE b bc al hal w _ k) ?_)
  rintro _ _ ⟨A, c, ks, hp, rfl, rfl⟩
  refine VC_sound tabOk 100 ?_
  exact ⟨_, ⟨A, c, ks, hp, rfl, rfl⟩, fun _ _ h => h⟩

theorem sl_sorted_S {ν : Type} (vE : ν → Value) (b bc : Nat) (al : List (ByteArray × ν)) (hal : al.length ≤ 12) (w0 : World) (hfs : List PH) (hm : Mod hfs [.blk bc 124 [.map (some b)], mpR Value.string vE b al] w0) :
    Calls Tryz.prog 72 #[.func (.func 134) #[] #[.pointer (some ⟨bc, 0, none⟩)]] w0 fun e w' => ∃ v Rs', e = .returned v ∧ (∃ A c ks, ks.Perm (keys al) ∧ Rise ltS (fun x => x) ks ∧ v = .slice A ks.length c ∧ Rs' = [own encS 1 9 A c ks, mpR Value.string vE b al]) ∧ Mod hfs Rs' w' ∧ Oth w0 w' := by
  refine enterN (tab := tab) Tryz.func72 rfl Tryz.ntmps72 rfl (args := [_]) rfl hm ?_
  refine VC_sound tabOk 100 ?_
  show Go _ _ _ _
  refine Go_ops rfl (OpTo_mcall [.blk bc 124 [.map (some b)], mpR Value.string vE b al] [] (List.Perm.of_eq (by simp)) rfl rfl rfl rfl rfl (by kernel_rfl) (fun w hb hm hio hsp k => sl_collect_S vE b bc al (by omega) w _ k) ?_)
  rintro _ _ ⟨A, c, ks, hp, rfl, rfl⟩
  have hl : ks.length = al.length := by have := hp.length_eq; simpa using this
  refine VC_sound tabOk 100 ?_
  show Go _ _ _ _
  refine Go_ops rfl (OpTo_mcall [own encS 1 9 A c ks] [.blk bc 124 [.map (some b)], mpR Value.string vE b al] (List.Perm.of_eq rfl) rfl rfl rfl rfl rfl (by kernel_rfl) (fun w hb hm hio hsp k => sl_sort_S A c ks w _ k (by omega)) ?_)
  rintro _ _ ⟨rfl, ys, h1, h2, h3, rfl⟩
  refine VC_sound tabOk 100 ?_
  exact ⟨_, ⟨A, c, ys, h1.perm.symm.trans hp, h2, by rw [h3]; rfl, rfl⟩, fun _ _ h => h.sel [0, 2] rfl⟩

end Go.Proofs.YthpcahgdobnljaaGreat
