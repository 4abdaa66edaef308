/- The law HeapFirst: what its run comes to. -/
import Derived.Test.YtobffgjilojpfaaL07
import Derived.Test.YtobffgjilojpfaaHeapQ
set_option maxRecDepth 100000
set_option autoImplicit false
set_option linter.unusedVariables false
set_option linter.unusedSimpArgs false
namespace Go.Proofs.Ytobffgjilojpfaa
open Go.RX Go Go.RowKit

theorem tmod_nat7 (k : Nat) (hk : 0 < k) {n : Int} (h : 0 ≤ n) : ∃ K : Nat, n.tmod k = K ∧ K < k := by
  have h1 := Int.tmod_nonneg (k : Int) h
  have h2 := Int.tmod_lt_of_pos n (b := (k : Int)) (by omega)
  exact ⟨(n.tmod k).toNat, by omega, by omega⟩
abbrev tA : ByteArray := ⟨#[97]⟩
abbrev tB : ByteArray := ⟨#[98]⟩
abbrev tC : ByteArray := ⟨#[99]⟩
/-- The third one's view. -/
abbrev vwC (S : Option Addr) (d : Nat) (ks : List Int) : VwM := ⟨4, S, d, ks, 3⟩
/-- What the second one has left. -/
def Left (key : Int) (vs : List VerM) : Prop := ∃ r, vs = ⟨key, tA, 1, 2⟩ :: r ∧ r.length ≤ 1 ∧ ∀ x ∈ r, x.born = 2 ∧ x.died = 0
/-- What has become of the three. -/
def Ends (s : TxS) (want : Int) : Prop := stE s 1 = 2 ∧ stE s 3 = 1 ∧ stE s 0 = 0 ∧ ((want = 6 ∧ (stE s 2 = 1 ∨ stE s 2 = 2)) ∨ (want = 0 ∧ stE s 2 = 3))
theorem first_sees {s : TxS} {want : Int} (h : Ends s want) {S : Option Addr} {d : Nat} {ks : List Int} (hp : ks.Perm [2, 3]) (key : Int) : seesP (stE s) (vwC S d ks) ⟨key, tA, 1, 2⟩ = true := by
  have h1 : ks.contains 1 = false := by
    rw [List.contains_eq_any_beq, List.any_eq_false]; intro x hx; have := hp.mem_iff.1 hx; simp at this; rcases this with rfl | rfl <;> decide
  have h2 : ks.contains 2 = true := by rw [List.contains_iff_mem]; exact hp.mem_iff.2 (by simp)
  simp [seesP, didP, snSees, h.1, h1, h2]
  simp at h1 h2
  simp [h1, h2]
theorem first_find {s : TxS} {want : Int} (h : Ends s want) {S : Option Addr} {d : Nat} {ks : List Int} (hp : ks.Perm [2, 3]) (key : Int) : findP (stE s) (vwC S d ks) key ⟨key, tA, 1, 2⟩ = true := by
  rw [findP, first_sees h hp]; simp
theorem first_oth {s : TxS} {want : Int} (h : Ends s want) {S : Option Addr} {d : Nat} {ks : List Int} : othP (stE s) (vwC S d ks) 2 = decide (want = 6) := by
  obtain ⟨h1, h3, h0, ⟨rfl, h2 | h2⟩ | ⟨rfl, h2⟩⟩ := h <;> simp [othP, h2]
theorem first_tru {s : TxS} {want : Int} (h : Ends s want) {S : Option Addr} {d : Nat} {ks : List Int} (hp : ks.Perm [2, 3]) {key : Int} {vs : List VerM} (hl : Left key vs) : vs.any (truP (stE s) (vwC S d ks)) = decide (want = 6) := by
  obtain ⟨r, rfl, _, hr⟩ := hl
  have h2 : ks.contains 2 = true := by rw [List.contains_iff_mem]; exact hp.mem_iff.2 (by simp)
  have hr2 : r.any (truP (stE s) (vwC S d ks)) = false := List.any_eq_false.2 fun x hx => by
    simp at h2
    have := (hr x hx).1
    simp [truP, seesP, didP, snSees, this, h2]
  rw [List.any_cons, hr2, Bool.or_false, truP, first_sees h hp, Bool.true_and]
  exact first_oth h
theorem first_kill {s : TxS} {want : Int} (h : Ends s want) {S : Option Addr} {d : Nat} {ks : List Int} (hp : ks.Perm [2, 3]) {key e : Int} {vs vs' : List VerM} (hl : Left key vs) (hq : killR (stE s) (vwC S d ks) vs key e vs') : e = want ∧ vs'.length ≤ 3 ∧ (want = 6 → Left key vs') := by
  have hl0 := hl
  obtain ⟨r, rfl, hrl, hr⟩ := hl
  have ho : othP (stE s) (vwC S d ks) 2 = decide (want = 6) := first_oth h
  by_cases hw : want = 6
  · obtain ⟨rfl, rfl⟩ := killR_clash h.2.1 (first_find h hp key) (by dsimp only; rw [ho, hw]; rfl) hq
    exact ⟨hw.symm, by simp; omega, fun _ => hl0⟩
  · obtain ⟨rfl, rfl⟩ := killR_hit h.2.1 (first_find h hp key) (by dsimp only; rw [ho]; simp [hw]) hq
    have : want = 0 := by rcases h.2.2.2 with ⟨h6, _⟩ | ⟨h0, _⟩; exact absurd h6 hw; exact h0
    exact ⟨this.symm, by simp; omega, fun h6 => absurd h6 hw⟩
theorem first_upd {s : TxS} {want : Int} (h : Ends s want) {S : Option Addr} {d : Nat} {ks : List Int} (hp : ks.Perm [2, 3]) {key e : Int} {t : ByteArray} {vs vs' : List VerM} (hl : Left key vs) (hq : updR (stE s) (vwC S d ks) vs ⟨key, t⟩ e vs') : e = want ∧ vs'.length ≤ 3 ∧ (want = 6 → Left key vs') := by
  have hl0 := hl
  obtain ⟨r, rfl, hrl, hr⟩ := hl
  have ho : othP (stE s) (vwC S d ks) 2 = decide (want = 6) := first_oth h
  by_cases hw : want = 6
  · obtain ⟨rfl, rfl⟩ := updR_clash h.2.1 (first_find h hp key) (by dsimp only; rw [ho, hw]; rfl) hq
    exact ⟨hw.symm, by simp; omega, fun _ => hl0⟩
  · obtain ⟨rfl, rfl⟩ := updR_hit h.2.1 (first_find h hp key) (by dsimp only; rw [ho]; simp [hw]) hq
    have : want = 0 := by rcases h.2.2.2 with ⟨h6, _⟩ | ⟨h0, _⟩; exact absurd h6 hw; exact h0
    exact ⟨this.symm, by simp; omega, fun h6 => absurd h6 hw⟩
theorem first_get {s : TxS} {want : Int} (h : Ends s want) {S : Option Addr} {d : Nat} {ks : List Int} (hp : ks.Perm [2, 3]) {key : Int} {vs : List VerM} (hl : Left key vs) : getV (stE s) (vwC S d ks) vs key = .tuple #[mkR ⟨key, tA⟩, .bool true] := by
  obtain ⟨r, rfl, hrl, hr⟩ := hl
  rw [getV, List.find?_cons, first_find h hp]
  rfl
set_option maxHeartbeats 16000000 in
theorem l07_HeapFirst (key how what en : Int) (w0 : World) (h1 : 0 ≤ how ∧ how ≤ 255) (h2 : 0 ≤ what ∧ what ≤ 255) (h3 : 0 ≤ en ∧ en ≤ 255) :
    Calls Try.prog 6 #[.int .i64 key, .int .u8 how, .int .u8 what, .int .u8 en] w0 fun e w' => e = .returned (.bool true) ∧ BelowD w0.heap.size w0 w' := by
  obtain ⟨K1, hK1, hk1⟩ := tmod_nat7 2 (by decide) h1.1
  obtain ⟨K2, hK2, hk2⟩ := tmod_nat7 3 (by decide) h2.1
  obtain ⟨K3, hK3, hk3⟩ := tmod_nat7 3 (by decide) h3.1
  refine enterP (tab := tab) Try.func6 rfl Try.ntmps6 rfl (args := [_, _, _, _]) rfl ?_
  refine VC_sound tabOk 100 ?_
  refine Go_ops rfl (OpTo_pcall (v := .bool true) rfl rfl rfl rfl rfl (by kernel_rfl) (fun w hm _ => l07_clash w) ?_)
  refine VC_sound tabOk 100 ?_
  refine ⟨fun h => by first | (simp at h; done) | (simp at h; omega) | (simp_all; done), fun _ => ?_⟩
  show Go _ _ _ _
  refine Go_ops rfl (OpTo_ncall rfl rfl rfl rfl rfl (by kernel_rfl) (fun w hm _ => txn_new w) ?_)
  rintro _ _ ⟨m, b1, b2, rfl, rfl⟩
  refine VC_sound tabOk 100 ?_
  show Go _ _ _ _
  refine Go_ops rfl (OpTo_ncall rfl rfl rfl rfl rfl (by kernel_rfl) (fun w hm _ => hp_new _ w) ?_)
  rintro _ _ ⟨h, rfl, rfl⟩
  refine VC_sound tabOk 100 ?_
  refine Go_res (txB m b1 b2 ⟨1, [], []⟩ ++ hpR h m none 0 []) (fun _ h => (h.own_nil (enc := encV) (k := 4) (T := 76) none).sel [2, 3, 4, 1, 0] rfl) ?_
  show Go _ _ _ _
  refine Go_ops rfl (OpTo_mcall (txB m b1 b2 ⟨1, [], []⟩) (hpR h m none 0 []) (List.Perm.of_eq rfl) rfl rfl rfl rfl rfl (by kernel_rfl) (fun w hb hm hio hsp k => txn_begin_ok m b1 b2 ⟨1, [], []⟩ ⟨by decide, by decide⟩ (by decide) (by simp) w _ k) ?_)
  rintro _ _ ⟨rfl, rfl⟩
  refine VC_sound tabOk 100 ?_
  show Go _ _ _ _
  refine Go_ops rfl (OpTo_mcall (txB m b1 b2 ⟨2, [1], []⟩) (hpR h m none 0 []) (List.Perm.of_eq rfl) rfl rfl rfl rfl rfl (by kernel_rfl) (fun w hb hm hio hsp k => txn_now m b1 b2 ⟨2, [1], []⟩ (by decide) w _ k) ?_)
  rintro _ _ ⟨S1, d1, ks, rfl, hp, hr, rfl⟩
  obtain rfl := List.Perm.eq_singleton hp
  refine VC_sound tabOk 100 ?_
  refine Go_sel [4, 5, 1, 2, 3, 0] rfl ?_
  show Go _ _ _ _
  show Go _ _ _ _
  refine Go_ops rfl (OpTo_mcall (hpX h m b1 b2 ⟨2, [1], []⟩ none 0 []) [own (encI .i64) 1 2 S1 d1 [1]] (List.Perm.of_eq rfl) rfl rfl rfl rfl rfl (by kernel_rfl) (fun w hb hm hio hsp k => hp_insert h m b1 b2 ⟨2, [1], []⟩ none 0 [] ⟨2, S1, d1, [1], 1⟩ ⟨key, tA⟩ (by simp) (by simp) w _ k (RdF.of_split hsp fun Rs w h => h.own_behind (i := 0) rfl)) ?_)
  rintro _ _ ⟨rfl, A1, c1, rfl⟩
  have st1 : stE ⟨2, [1], []⟩ 1 = 1 := by decide
  have e1 : insE (stE ⟨2, [1], []⟩) ⟨2, S1, d1, [1], 1⟩ [] key = 0 := by simp [insE, st1]
  simp only [insVs, e1]
  refine VC_sound tabOk 100 ?_
  refine Go_sel [2, 3, 4, 0, 1] rfl ?_
  show Go _ _ _ _
  show Go _ _ _ _
  refine Go_ops rfl (OpTo_mcall (txB m b1 b2 ⟨2, [1], []⟩) (hpR h m A1 c1 [⟨key, tA, 1, 0⟩]) (List.Perm.of_eq rfl) rfl rfl rfl rfl rfl (by kernel_rfl) (fun w hb hm hio hsp k => txn_commit_ok m b1 b2 ⟨2, [1], []⟩ 1 (by simp) w _ k) ?_)
  rintro _ _ ⟨rfl, rfl⟩
  rw [show (⟨2, del 1 [1], ins 1 []⟩ : TxS) = ⟨2, [], [1]⟩ from by simp [del, ins]]
  refine VC_sound tabOk 100 ?_
  show Go _ _ _ _
  refine Go_ops rfl (OpTo_mcall (txB m b1 b2 ⟨2, [], [1]⟩) (hpR h m A1 c1 [⟨key, tA, 1, 0⟩]) (List.Perm.of_eq rfl) rfl rfl rfl rfl rfl (by kernel_rfl) (fun w hb hm hio hsp k => txn_begin_ok m b1 b2 ⟨2, [], [1]⟩ ⟨by decide, by decide⟩ (by decide) (by simp) w _ k) ?_)
  rintro _ _ ⟨rfl, rfl⟩
  refine VC_sound tabOk 100 ?_
  show Go _ _ _ _
  refine Go_ops rfl (OpTo_mcall (txB m b1 b2 ⟨3, [2], [1]⟩) (hpR h m A1 c1 [⟨key, tA, 1, 0⟩]) (List.Perm.of_eq rfl) rfl rfl rfl rfl rfl (by kernel_rfl) (fun w hb hm hio hsp k => txn_now m b1 b2 ⟨3, [2], [1]⟩ (by decide) w _ k) ?_)
  rintro _ _ ⟨S2, d2, ks2, rfl, hp2, hr2, rfl⟩
  obtain rfl := List.Perm.eq_singleton hp2
  refine VC_sound tabOk 100 ?_
  intro b15 _
  (repeat (first | refine Or.inl ⟨rfl, rfl, ?_⟩ | refine Or.inl ⟨rfl, ?_⟩ | refine Or.inr ?_))
  refine Go_sel [2, 3, 4, 5, 6, 0, 1] rfl ?_
  show Go _ _ _ _
  show Go _ _ _ _
  refine Go_ops rfl (OpTo_mcall (txB m b1 b2 ⟨3, [2], [1]⟩) (hpR h m A1 c1 [⟨key, tA, 1, 0⟩] ++ [.blk b15 35 (VwM.cs ⟨3, S2, d2, [2], 2⟩), own (encI .i64) 1 2 S2 d2 [2]]) (List.Perm.of_eq rfl) rfl rfl rfl rfl rfl (by kernel_rfl) (fun w hb hm hio hsp k => txn_begin_ok m b1 b2 ⟨3, [2], [1]⟩ ⟨by decide, by decide⟩ (by decide) (by simp) w _ k) ?_)
  rintro _ _ ⟨rfl, rfl⟩
  refine VC_sound tabOk 100 ?_
  show Go _ _ _ _
  refine Go_ops rfl (OpTo_mcall (txB m b1 b2 ⟨4, [2, 3], [1]⟩) (hpR h m A1 c1 [⟨key, tA, 1, 0⟩] ++ [.blk b15 35 (VwM.cs ⟨3, S2, d2, [2], 2⟩), own (encI .i64) 1 2 S2 d2 [2]]) (List.Perm.of_eq rfl) rfl rfl rfl rfl rfl (by kernel_rfl) (fun w hb hm hio hsp k => txn_now m b1 b2 ⟨4, [2, 3], [1]⟩ (by decide) w _ k) ?_)
  rintro _ _ ⟨S3, d3, ks, rfl, hp3, hr3, rfl⟩
  have hkl : ks.length = 2 := hp3.length_eq
  refine VC_sound tabOk 15 ?_
  intro b18 _
  (repeat (first | refine Or.inl ⟨rfl, rfl, ?_⟩ | refine Or.inl ⟨rfl, ?_⟩ | refine Or.inr ?_))
  refine ⟨by decide, _, hK1.symm, ?_⟩
  show Go _ (KI.code (Code.cond _ _ _) :: _) _ _
  have stb : stE ⟨4, [2, 3], [1]⟩ 2 = 1 := by decide
  have stf : findP (stE ⟨4, [2, 3], [1]⟩) ⟨3, S2, d2, [2], 2⟩ key ⟨key, tA, 1, 0⟩ = true := by simp [findP, seesP, didP, snSees, stE]
  have sto : othP (stE ⟨4, [2, 3], [1]⟩) ⟨3, S2, d2, [2], 2⟩ 0 = false := by simp [othP, stE]
  refine Go_cut (σ := Option Addr × Nat × List VerM) (fun u => [(0, .v (.int .i64 key)), (2, .v (.int .u8 what)), (3, .v (.int .u8 en)), (9, .v (.pointer (some ⟨m, 0, none⟩))), (10, .v (.pointer (some ⟨h, 0, none⟩))), (13, .v (.int .i64 2)), (15, .v (.pointer (some ⟨b15, 0, none⟩))), (18, .v (.pointer (some ⟨b18, 0, none⟩))), (19, .v (.int .i64 0))])
    (fun u => hpX h m b1 b2 ⟨4, [2, 3], [1]⟩ u.1 u.2.1 u.2.2 ++ [.blk b18 35 (VwM.cs (vwC S3 d3 ks)), own (encI .i64) 1 2 S3 d3 ks]) (fun u => Left key u.2.2) ?_ ?_
  · refine VC_sound tabOk 100 ?_
    refine ⟨fun hc => ?_, fun hc => ?_⟩
    · (repeat (first | refine Or.inl ⟨rfl, rfl, ?_⟩ | refine Or.inl ⟨rfl, ?_⟩ | refine Or.inr ?_))
      refine Go_sel [5, 6, 2, 3, 4, 0, 1, 7, 8] rfl ?_
      show Go _ _ _ _
      show Go _ _ _ _
      refine Go_ops rfl (OpTo_mcall (hpX h m b1 b2 ⟨4, [2, 3], [1]⟩ A1 c1 [⟨key, tA, 1, 0⟩]) [.blk b18 35 (VwM.cs (vwC S3 d3 ks)), own (encI .i64) 1 2 S3 d3 ks, .blk b15 35 (VwM.cs ⟨3, S2, d2, [2], 2⟩), own (encI .i64) 1 2 S2 d2 [2]] (List.Perm.of_eq rfl) rfl rfl rfl rfl rfl (by kernel_rfl) (fun w hb hm hio hsp k => hp_update h m b1 b2 ⟨4, [2, 3], [1]⟩ A1 c1 [⟨key, tA, 1, 0⟩] ⟨3, S2, d2, [2], 2⟩ ⟨key, tB⟩ (by simp) (by simp) w _ k (RdF.of_split hsp fun Rs w h => h.own_behind (i := 3) rfl)) ?_)
      rintro _ _ ⟨e, vs', A2, c2, hq, rfl, rfl⟩
      obtain ⟨rfl, rfl⟩ := updR_hit stb stf sto hq
      refine VC_sound tabOk 100 ?_
      exact Go_put (A2, c2, _) ⟨_, rfl, by simp, by simp⟩ ⟨rfl, rfl, rfl, rfl, rfl, rfl, rfl, rfl, rfl, trivial⟩ (fun _ h => h.sel [0, 1, 2, 3, 4, 5, 6] rfl)
    · (repeat (first | refine Or.inl ⟨rfl, rfl, ?_⟩ | refine Or.inl ⟨rfl, ?_⟩ | refine Or.inr ?_))
      refine Go_sel [5, 6, 2, 3, 4, 0, 1, 7, 8] rfl ?_
      show Go _ _ _ _
      show Go _ _ _ _
      refine Go_ops rfl (OpTo_mcall (hpX h m b1 b2 ⟨4, [2, 3], [1]⟩ A1 c1 [⟨key, tA, 1, 0⟩]) [.blk b18 35 (VwM.cs (vwC S3 d3 ks)), own (encI .i64) 1 2 S3 d3 ks, .blk b15 35 (VwM.cs ⟨3, S2, d2, [2], 2⟩), own (encI .i64) 1 2 S2 d2 [2]] (List.Perm.of_eq rfl) rfl rfl rfl rfl rfl (by kernel_rfl) (fun w hb hm hio hsp k => hp_delete h m b1 b2 ⟨4, [2, 3], [1]⟩ A1 c1 [⟨key, tA, 1, 0⟩] ⟨3, S2, d2, [2], 2⟩ key (by simp) (by simp) w _ k (RdF.of_split hsp fun Rs w h => h.own_behind (i := 3) rfl)) ?_)
      rintro _ _ ⟨e, vs', hq, rfl, rfl⟩
      obtain ⟨rfl, rfl⟩ := killR_hit stb stf sto hq
      refine VC_sound tabOk 100 ?_
      exact Go_put (A1, c1, _) ⟨_, rfl, by simp, by simp⟩ ⟨rfl, rfl, rfl, rfl, rfl, rfl, rfl, rfl, rfl, trivial⟩ (fun _ h => h.sel [0, 1, 2, 3, 4, 5, 6] rfl)
  rintro ⟨A2, c2, vs⟩ hL
  dsimp only at hL ⊢
  refine VC_sound tabOk 9 ?_
  refine ⟨by decide, _, hK3.symm, ?_⟩
  show Go _ (KI.code (Code.block _ _) :: _) _ _
  refine Go_cut (σ := TxS × Int) (fun u => [(0, .v (.int .i64 key)), (2, .v (.int .u8 what)), (9, .v (.pointer (some ⟨m, 0, none⟩))), (10, .v (.pointer (some ⟨h, 0, none⟩))), (18, .v (.pointer (some ⟨b18, 0, none⟩))), (19, .v (.int .i64 0)), (20, .v (.int .i64 u.2))])
    (fun u => hpX h m b1 b2 u.1 A2 c2 vs ++ [.blk b18 35 (VwM.cs (vwC S3 d3 ks)), own (encI .i64) 1 2 S3 d3 ks]) (fun u => Ends u.1 u.2) ?_ ?_
  · refine VC_sound tabOk 100 ?_
    refine ⟨fun hc => ?_, fun hc => ?_⟩
    · refine Go_sel [2, 3, 4, 0, 1, 5, 6] rfl ?_
      show Go _ _ _ _
      show Go _ _ _ _
      refine Go_ops rfl (OpTo_mcall (txB m b1 b2 ⟨4, [2, 3], [1]⟩) (hpR h m A2 c2 vs ++ [.blk b18 35 (VwM.cs (vwC S3 d3 ks)), own (encI .i64) 1 2 S3 d3 ks]) (List.Perm.of_eq rfl) rfl rfl rfl rfl rfl (by kernel_rfl) (fun w hb hm hio hsp k => txn_commit_ok m b1 b2 ⟨4, [2, 3], [1]⟩ 2 (by simp) w _ k) ?_)
      rintro _ _ ⟨rfl, rfl⟩
      rw [show (⟨4, del 2 [2, 3], ins 2 [1]⟩ : TxS) = ⟨4, [3], [1, 2]⟩ from by simp [del, ins]]
      refine VC_sound tabOk 100 ?_
      exact Go_put (⟨4, [3], [1, 2]⟩, 6) ⟨by decide, by decide, by decide, .inl ⟨rfl, .inr (by decide)⟩⟩ ⟨rfl, rfl, rfl, rfl, rfl, rfl, rfl, trivial⟩ (fun _ h => h.sel [3, 4, 0, 1, 2, 5, 6] rfl)
    refine ⟨fun hc2 => ?_, fun hc2 => ?_⟩
    · refine Go_sel [2, 3, 4, 0, 1, 5, 6] rfl ?_
      show Go _ _ _ _
      show Go _ _ _ _
      refine Go_ops rfl (OpTo_mcall (txB m b1 b2 ⟨4, [2, 3], [1]⟩) (hpR h m A2 c2 vs ++ [.blk b18 35 (VwM.cs (vwC S3 d3 ks)), own (encI .i64) 1 2 S3 d3 ks]) (List.Perm.of_eq rfl) rfl rfl rfl rfl rfl (by kernel_rfl) (fun w hb hm hio hsp k => txn_abort_ok m b1 b2 ⟨4, [2, 3], [1]⟩ 2 (by simp) w _ k) ?_)
      rintro _ _ ⟨rfl, rfl⟩
      rw [show (⟨4, del 2 [2, 3], [1]⟩ : TxS) = ⟨4, [3], [1]⟩ from by simp [del]]
      refine VC_sound tabOk 100 ?_
      exact Go_put (⟨4, [3], [1]⟩, 0) ⟨by decide, by decide, by decide, .inr ⟨rfl, by decide⟩⟩ ⟨rfl, rfl, rfl, rfl, rfl, rfl, rfl, trivial⟩ (fun _ h => h.sel [3, 4, 0, 1, 2, 5, 6] rfl)
    · exact Go_put (⟨4, [2, 3], [1]⟩, 6) ⟨by decide, by decide, by decide, .inl ⟨rfl, .inl (by decide)⟩⟩ ⟨rfl, rfl, rfl, rfl, rfl, rfl, rfl, trivial⟩ (fun _ h => h)
  rintro ⟨s, want⟩ hE
  dsimp only at hE ⊢
  refine VC_sound tabOk 9 ?_
  refine ⟨by decide, _, hK2.symm, ?_⟩
  show Go _ (KI.code (Code.block _ _) :: _) _ _
  refine Go_cut (σ := Option Addr × Nat × List VerM) (fun u => [(0, .v (.int .i64 key)), (10, .v (.pointer (some ⟨h, 0, none⟩))), (18, .v (.pointer (some ⟨b18, 0, none⟩))), (19, .v (.int .i64 0)), (20, .v (.int .i64 want)), (21, .v (.int .i64 want))])
    (fun u => hpX h m b1 b2 s u.1 u.2.1 u.2.2 ++ [.blk b18 35 (VwM.cs (vwC S3 d3 ks)), own (encI .i64) 1 2 S3 d3 ks]) (fun u => u.2.2.length ≤ 3 ∧ (want = 6 → Left key u.2.2)) ?_ ?_
  · have hvl : vs.length ≤ 2 := by
      obtain ⟨r, rfl, hrl, _⟩ := hL
      simp; omega
    refine VC_sound tabOk 100 ?_
    refine ⟨fun hc => ?_, fun hc => ?_⟩
    · (repeat (first | refine Or.inl ⟨rfl, rfl, ?_⟩ | refine Or.inl ⟨rfl, ?_⟩ | refine Or.inr ?_))
      show Go _ _ _ _
      refine Go_ops rfl (OpTo_mcall (hpX h m b1 b2 s A2 c2 vs) [.blk b18 35 (VwM.cs (vwC S3 d3 ks)), own (encI .i64) 1 2 S3 d3 ks] (List.Perm.of_eq rfl) rfl rfl rfl rfl rfl (by kernel_rfl) (fun w hb hm hio hsp k => hp_update h m b1 b2 s A2 c2 vs (vwC S3 d3 ks) ⟨key, tC⟩ (by omega) (by dsimp only; omega) w _ k (RdF.of_split hsp fun Rs w h => h.own_behind (i := 1) rfl)) ?_)
      rintro _ _ ⟨e, vs', A3, c3, hq, rfl, rfl⟩
      obtain ⟨rfl, hl, hw⟩ := first_upd hE hp3 hL hq
      refine VC_sound tabOk 100 ?_
      exact Go_put (A3, c3, vs') ⟨hl, hw⟩ ⟨rfl, rfl, rfl, rfl, rfl, rfl, trivial⟩ (fun _ h => h)
    refine ⟨fun hc2 => ?_, fun hc2 => ?_⟩
    · (repeat (first | refine Or.inl ⟨rfl, rfl, ?_⟩ | refine Or.inl ⟨rfl, ?_⟩ | refine Or.inr ?_))
      show Go _ _ _ _
      refine Go_ops rfl (OpTo_mcall (hpX h m b1 b2 s A2 c2 vs) [.blk b18 35 (VwM.cs (vwC S3 d3 ks)), own (encI .i64) 1 2 S3 d3 ks] (List.Perm.of_eq rfl) rfl rfl rfl rfl rfl (by kernel_rfl) (fun w hb hm hio hsp k => hp_delete h m b1 b2 s A2 c2 vs (vwC S3 d3 ks) key (by omega) (by dsimp only; omega) w _ k (RdF.of_split hsp fun Rs w h => h.own_behind (i := 1) rfl)) ?_)
      rintro _ _ ⟨e, vs', hq, rfl, rfl⟩
      obtain ⟨rfl, hl, hw⟩ := first_kill hE hp3 hL hq
      refine VC_sound tabOk 100 ?_
      exact Go_put (A2, c2, vs') ⟨hl, hw⟩ ⟨rfl, rfl, rfl, rfl, rfl, rfl, trivial⟩ (fun _ h => h)
    · (repeat (first | refine Or.inl ⟨rfl, rfl, ?_⟩ | refine Or.inl ⟨rfl, ?_⟩ | refine Or.inr ?_))
      show Go _ _ _ _
      refine Go_ops rfl (OpTo_mcall (hpX h m b1 b2 s A2 c2 vs) [.blk b18 35 (VwM.cs (vwC S3 d3 ks)), own (encI .i64) 1 2 S3 d3 ks] (List.Perm.of_eq rfl) rfl rfl rfl rfl rfl (by kernel_rfl) (fun w hb hm hio hsp k => hp_truncate h m b1 b2 s A2 c2 vs (vwC S3 d3 ks) (by omega) (by dsimp only; omega) w _ k (RdF.of_split hsp fun Rs w h => h.own_behind (i := 1) rfl)) ?_)
      have htr : vs.any (truP (stE s) (vwC S3 d3 ks)) = decide (want = 6) := first_tru hE hp3 hL
      rintro _ _ (⟨hx, _⟩ | ⟨_, ht, rfl, rfl⟩ | ⟨_, ht, ys, A3, c3, hy, rfl, rfl⟩)
      · exact absurd hE.2.1 hx
      · have hw : want = 6 := by rw [ht] at htr; simpa using htr.symm
        subst hw
        refine VC_sound tabOk 100 ?_
        exact Go_put (A2, c2, vs) ⟨by dsimp only; omega, fun _ => hL⟩ ⟨rfl, rfl, rfl, rfl, rfl, rfl, trivial⟩ (fun _ h => h)
      · have hw : want = 0 := by
          rw [ht] at htr
          rcases hE.2.2.2 with ⟨h6, _⟩ | ⟨h0, _⟩
          · rw [h6] at htr; simp at htr
          · exact h0
        subst hw
        refine VC_sound tabOk 100 ?_
        exact Go_put (A2, c2, vs.map (endV (stE s) (vwC S3 d3 ks))) ⟨by simp; omega, fun h => by cases h⟩ ⟨rfl, rfl, rfl, rfl, rfl, rfl, trivial⟩ (fun _ h => h.sel [1, 2, 3, 4, 5, 6, 7] rfl)
  rintro ⟨A3, c3, vs3⟩ ⟨hvl, hL3⟩
  dsimp only at hvl hL3 ⊢
  refine VC_sound tabOk 100 ?_
  (repeat (first | refine Or.inl ⟨rfl, rfl, ?_⟩ | refine Or.inl ⟨rfl, ?_⟩ | refine Or.inr ?_))
  refine Go_ops rfl (OpTo_pcall (v := getV (stE s) (vwC S3 d3 ks) vs3 key) rfl rfl rfl rfl rfl (by kernel_rfl) (fun w hm _ => hp_get h m b1 b2 s A3 c3 vs3 (vwC S3 d3 ks) key w (HpAt.of hm 0 rfl rfl rfl rfl rfl) (hm.own_rd (i := 6) rfl) (by dsimp only; omega) (by omega)) ?_)
  rcases hE.2.2.2 with ⟨h6, _⟩ | ⟨h0, _⟩
  · subst h6
    rw [first_get hE hp3 (hL3 rfl)]
    refine VC_sound tabOk 100 ?_
    intro b22 _
    (repeat (first | refine Or.inl ⟨rfl, rfl, ?_⟩ | refine Or.inl ⟨rfl, ?_⟩ | refine Or.inr ?_))
    refine ⟨fun _ => ?_, fun h => by first | (simp at h; done) | (simp at h; omega) | (simp_all; done)⟩
    refine ⟨fun _ => ?_, fun h => by first | (simp at h; done) | (simp at h; omega) | (simp_all; done)⟩
    refine ⟨fun h => by first | (simp at h; done) | (simp at h; omega) | (simp_all; done), fun _ => ?_⟩
    refine ⟨fun _ => ?_, fun h => by simp at h⟩
    refine Or.inl ⟨rfl, ?_⟩
    exact congrArg Value.bool (by simp)
  · subst h0
    have hg : ∃ q : RowM, ∃ b : Bool, getV (stE s) (vwC S3 d3 ks) vs3 key = .tuple #[mkR q, .bool b] := by
      unfold getV
      split
      · exact ⟨_, _, rfl⟩
      · exact ⟨_, _, rfl⟩
    obtain ⟨q, b, hg⟩ := hg
    rw [hg]
    refine VC_sound tabOk 100 ?_
    intro b22 _
    (repeat (first | refine Or.inl ⟨rfl, rfl, ?_⟩ | refine Or.inl ⟨rfl, ?_⟩ | refine Or.inr ?_))
    refine ⟨fun _ => ?_, fun h => by first | (simp at h; done) | (simp at h; omega) | (simp_all; done)⟩
    refine ⟨fun _ => ?_, fun h => by first | (simp at h; done) | (simp at h; omega) | (simp_all; done)⟩
    refine ⟨fun _ => ?_, fun h => by first | (simp at h; done) | (simp at h; omega) | (simp_all; done)⟩
    rfl
end Go.Proofs.Ytobffgjilojpfaa
