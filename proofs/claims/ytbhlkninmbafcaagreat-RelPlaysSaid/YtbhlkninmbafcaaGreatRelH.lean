/- What New and Run of package rel do: tables with heaps. -/
import Derived.Test.YtbhlkninmbafcaaGreatL08
import Derived.Test.YtbhlkninmbafcaaGreatHeapQ
set_option maxRecDepth 100000
set_option autoImplicit false
set_option linter.unusedVariables false
set_option linter.unusedSimpArgs false
namespace Go.Proofs.YtbhlkninmbafcaaGreat
open Go.RX Go Go.RowKit


/-- A table's heap. -/
structure Hp where
  h : Nat
  A : Option Addr
  c : Nat
  vs : List VerM
def Hp.R (m : Nat) (H : Hp) : List Res := hpR H.h m H.A H.c H.vs
def hsR (m : Nat) (hs : List Hp) : List Res := hs.flatMap (Hp.R m)
def psH (hs : List Hp) : List (Option Addr) := hs.map fun H => some ⟨H.h, 0, none⟩
theorem psH_len (hs : List Hp) : (psH hs).length = hs.length := by simp [psH]

/-! ### one of them -/
theorem hsR_at {m : Nat} {hs : List Hp} {t : Nat} {H : Hp} (ht : hs[t]? = some H) : (hsR m hs).Perm (Hp.R m H ++ hsR m (hs.eraseIdx t)) := by
  obtain ⟨hl, rfl⟩ := List.getElem?_eq_some_iff.1 ht
  have e : hs = hs.take t ++ hs[t] :: hs.drop (t + 1) := by simp
  rw [List.eraseIdx_eq_take_drop_succ]
  conv => lhs; rw [e]
  simp only [hsR, List.flatMap_append, List.flatMap_cons]
  exact List.perm_append_comm_assoc _ _ _
theorem can_at {m b1 b2 : Nat} {s : TxS} {REST : List Res} {hs : List Hp} {t : Nat} {H : Hp} (ht : hs[t]? = some H) : (txB m b1 b2 s ++ (REST ++ hsR m hs)).Perm (hpX H.h m b1 b2 s H.A H.c H.vs ++ (REST ++ hsR m (hs.eraseIdx t))) := by
  have h1 := hsR_at (m := m) ht
  refine (List.Perm.append_left _ (List.Perm.append_left REST h1)).trans ?_
  show (txB m b1 b2 s ++ (REST ++ (hpR H.h m H.A H.c H.vs ++ hsR m (hs.eraseIdx t)))).Perm ((hpR H.h m H.A H.c H.vs ++ txB m b1 b2 s) ++ (REST ++ hsR m (hs.eraseIdx t)))
  rw [List.append_assoc]
  refine (List.Perm.append_left _ (List.perm_append_comm_assoc _ _ _)).trans ?_
  exact List.perm_append_comm_assoc _ _ _
theorem can_set {m b1 b2 : Nat} {s : TxS} {REST : List Res} {hs : List Hp} {t : Nat} (hl : t < hs.length) (H : Hp) : (hpX H.h m b1 b2 s H.A H.c H.vs ++ (REST ++ hsR m (hs.eraseIdx t))).Perm (txB m b1 b2 s ++ (REST ++ hsR m (hs.set t H))) := by
  have h1 := can_at (m := m) (b1 := b1) (b2 := b2) (s := s) (REST := REST) (hs := hs.set t H) (t := t) (H := H) (by rw [List.getElem?_set_self hl])
  rw [List.eraseIdx_set_eq] at h1
  exact h1.symm
theorem psH_set {hs : List Hp} {t : Nat} {H : Hp} (ht : hs[t]? = some H) (A : Option Addr) (c : Nat) (vs : List VerM) : psH (hs.set t ⟨H.h, A, c, vs⟩) = psH hs := by
  obtain ⟨hl, rfl⟩ := List.getElem?_eq_some_iff.1 ht
  rw [psH, List.map_set]
  have e : (some (⟨hs[t].h, 0, none⟩ : Addr)) = (hs.map fun H => some (⟨H.h, 0, none⟩ : Addr))[t]'(by simpa using hl) := by simp
  dsimp only
  rw [e, List.set_getElem_self]
  rfl
theorem psH_at {hs : List Hp} {t : Nat} {H : Hp} (ht : hs[t]? = some H) : heapAt (psH hs) t = some ⟨H.h, 0, none⟩ := by
  rw [heapAt, if_pos (by omega), show (t : Int).toNat = t from rfl, psH, List.getElem?_map, ht]; rfl
theorem psH_out {hs : List Hp} {t : Int} (ht : t < 0 ∨ hs.length ≤ t) : heapAt (psH hs) t = none := by
  unfold heapAt
  split
  · rw [List.getElem?_eq_none (by rw [psH_len]; omega)]; rfl
  · rfl

/-! ### New -/
theorem hp_new8 (m : Option Addr) (w0 : World) : Calls Tryz.prog 24 #[.pointer m] w0 fun e w' => ∃ u Rs', e = .returned u ∧ (∃ h, u = .pointer (some ⟨h, 0, none⟩) ∧ Rs' = [.blk h 108 [.pointer m, .slice none 0 0]]) ∧ Mod [heapOf w0] Rs' w' ∧ Oth w0 w' := by
  refine enterN (tab := tab) Tryz.func24 rfl Tryz.ntmps24 rfl (args := [_]) rfl (Mod.start w0) ?_
  refine VC_sound tabOk 100 ?_
  intro h _
  exact ⟨_, ⟨h, rfl, rfl⟩, fun _ _ h => h⟩
theorem permNew {α : Type} (X B7 BH O BR : α) (t : List α) : (X :: B7 :: BH :: O :: BR :: t).Perm (B7 :: O :: BR :: (t ++ [BH, X])) := by
  classical
  exact List.perm_iff_count.2 fun a => by simp only [List.count_cons, List.count_append, List.count_nil]; omega
set_option maxHeartbeats 1000000 in
theorem rel_newH (m : Nat) (n : Int) (w0 : World) (hn : -9223372036854775808 ≤ n ∧ n ≤ 9223372036854775807) : Calls Tryz.prog 7 #[.pointer (some ⟨m, 0, none⟩), .int .i64 n] w0 fun e w' => ∃ v Rs', e = .returned v ∧ (∃ br A c hs, v = .pointer (some ⟨br, 0, none⟩) ∧ hs.length = tabs n ∧ (∀ H ∈ hs, H.vs = []) ∧ Rs' = relR br A c (psH hs) ++ hsR m hs) ∧ Mod [heapOf w0] Rs' w' ∧ Oth w0 w' := by
  refine enterN (tab := tab) Tryz.func7 rfl Tryz.ntmps7 rfl (args := [_, _]) rfl (Mod.start w0) ?_
  refine VC_sound tabOk 100 ?_
  intro br _
  have hT : (if (4 : Int) < (if (1 : Int) > n then 1 else n) then 4 else (if (1 : Int) > n then 1 else n)) = (tabs n : Nat) := by
    unfold tabs
    repeat' split
    all_goals omega
  refine Go_res _ (fun w h => h.own_nil (enc := encP) (k := 1) (T := 79) none) ?_
  refine Go_loop (σ := Option Addr × Nat × List Hp) (fun s => [(0, .v (.pointer (some ⟨m, 0, none⟩))), (5, .v (.pointer (some ⟨br, 0, none⟩))), (10, .v (.int .i64 (tabs n : Nat))), (11, .v (.int .i64 s.2.2.length))]) (fun s => own encP 1 79 s.1 s.2.1 (psH s.2.2) :: .blk br 78 [.slice s.1 (psH s.2.2).length s.2.1] :: hsR m s.2.2)
    (fun s => s.2.2.length ≤ tabs n ∧ ∀ q ∈ s.2.2, q.vs = []) (fun s => tabs n - s.2.2.length) (none, 0, []) ⟨by simp, by simp⟩ ⟨rfl, rfl, congrArg (Value.int .i64) hT, rfl, trivial⟩ (fun _ h => h) ?_
  have h4 : tabs n ≤ 4 := by unfold tabs; omega
  rintro ⟨A, c, hs⟩ ⟨hl, hq⟩
  dsimp only at hl hq ⊢
  have hpl := psH_len hs
  refine VC_sound tabOk 100 ?_
  refine ⟨fun hb => ?_, fun hb => ?_⟩
  · have hlt : hs.length < tabs n := by simp at hb; omega
    show Go _ _ _ _
    refine Go_any mixed [8, 11] [(0, false), (1, false), (2, false), (3, false), (5, false), (4, false), (6, true), (7, true), (8, true), (9, false), (10, false), (11, true)] rfl (by kernel_rfl) (by kernel_rfl) [.blk br 78 [.slice A (psH hs).length c]] (FrmX [heapOf w0]) (FrmX.stable _) (fun w hm _ => ⟨Holds.of_idx [1] hm, FrmX.of_mod hm⟩) ?_
    refine VC_sound tabOk 100 ?_
    (repeat (first | refine Or.inl ⟨rfl, rfl, ?_⟩ | refine Or.inl ⟨rfl, ?_⟩ | refine Or.inr ?_))
    refine Go_aloneL rfl rfl (OpTo_ncall rfl rfl rfl rfl rfl (by kernel_rfl) (fun w hm _ => hp_new8 (some ⟨m, 0, none⟩) w) ?_)
    rintro _ _ ⟨bh, rfl, rfl⟩
    refine And.intro (fun w hm _ => ⟨Holds.of_idx [2] hm, FrmX.of_mod hm⟩) ?_
    refine VC_sound tabOk 100 ?_
    intro b7 _
    refine Go_aloneM rfl rfl rfl (OpTo_append tabOk encP_is (ys := [some ⟨bh, 0, none⟩]) (i := 2) rfl rfl rfl rfl rfl rfl rfl rfl rfl rfl rfl (fun w hm _ => hm.blk_rd (i := 0) rfl) (by simp; omega) (by simp; omega) (fun A2 c2 => ?_))
    refine VC_sound tabOk 100 ?_
    (repeat (first | refine Or.inl ⟨rfl, rfl, ?_⟩ | refine Or.inl ⟨rfl, ?_⟩ | refine Or.inr ?_))
    refine ⟨_, wrap_i64 (n := (hs.length : Int) + 1) (by omega) (by omega), ?_⟩
    have e : psH (hs ++ [(⟨bh, none, 0, []⟩ : Hp)]) = psH hs ++ [some ⟨bh, 0, none⟩] := by simp [psH]
    have e2 : (psH hs ++ [some (⟨bh, 0, none⟩ : Addr)]).length = (psH hs).length + 1 := by simp
    have e3 : hsR m (hs ++ [(⟨bh, none, 0, []⟩ : Hp)]) = hsR m hs ++ hpR bh m none 0 [] := by simp [hsR, Hp.R]
    refine Go_fin (A2, c2, hs ++ [(⟨bh, none, 0, []⟩ : Hp)]) ⟨by simp; omega, fun q hq2 => ?_⟩ (by simp; omega) ⟨rfl, rfl, rfl, ?_, trivial⟩ (fun _ h => ?_)
    · rcases List.mem_append.1 hq2 with h | h
      · exact hq q h
      · simp at h; subst h; rfl
    · exact congrArg (Value.int .i64) (by simp)
    · have h1 := (h.own_nil (enc := encV) (k := 4) (T := 113) none)
      have h2 := (h1.permRs (permNew _ _ _ _ _ _)).dropAt 0
      dsimp only
      rw [e, e2, e3]
      exact h2
  · have hlen : hs.length = tabs n := by simp at hb; omega
    exact ⟨_, ⟨br, A, c, hs, rfl, hlen, hq, rfl⟩, fun _ _ h => h.permRs (List.Perm.swap _ _ _)⟩

theorem hp_len (h m b1 b2 : Nat) (s : TxS) (A : Option Addr) (c : Nat) (vs : List VerM) (w0 : World) (hp : HpAt w0 h m b1 b2 s A c vs) : Calls Tryz.prog 64 #[.pointer (some ⟨h, 0, none⟩)] w0 fun e w' => e = .returned (.int .i64 vs.length) ∧ BelowD w0.heap.size w0 w' := by
  refine enterP (tab := tab) Tryz.func64 rfl Tryz.ntmps64 rfl (args := [_]) rfl ?_
  refine VC_sound tabOk 100 ?_
  refine Go_ops rfl (OpTo_pcall (v := .bool false) rfl rfl rfl rfl rfl (by kernel_rfl) (fun w hm _ => hp_none h m b1 b2 s A c vs w (hp.mod hm)) ?_)
  refine VC_sound tabOk 100 ?_
  refine ⟨fun h => by simp at h, fun _ => ?_⟩
  refine Go_ops rfl (OpTo_loadBlk tabOk (cs := hpV m A vs.length c) (.slice A vs.length c) rfl rfl rfl (fun w hm _ => hm.block_old hp.blk) rfl ?_)
  refine VC_sound tabOk 100 ?_
  rfl

/-! ### Run -/
def longP (k : Int) (n : Nat) : Bool := decide (40 < (n : Int)) && (decide (k = 1) || decide (k = 2))
def rightP (k : Int) (ps : List (Option Addr)) (t : Int) (n : Nat) : Bool := decide (1 ≤ k) && (decide (k ≤ 6) && ((heapAt ps t).isSome && !longP k n))
set_option maxHeartbeats 2000000 in
theorem rel_right (br : Nat) (A : Option Addr) (c : Nat) (ps : List (Option Addr)) (k t : Int) (r : RowM) (w0 : World) (hb : w0.heap[br]? = some (.cells #[.slice A ps.length c] 78 (0, 0))) (hA : RdW w0 A (ps.flatMap encP)) :
    Calls Tryz.prog 29 #[.pointer (some ⟨br, 0, none⟩), mkSt k t r] w0 fun e w' => e = .returned (.bool (rightP k ps t r.text.size)) ∧ BelowD w0.heap.size w0 w' := by
  refine enterP (tab := tab) Tryz.func29 rfl Tryz.ntmps29 rfl (args := [_, _]) rfl ?_
  refine VC_sound tabOk 6 ?_
  intro b3 _
  show Go _ (KI.code (Code.region _ _ _) :: _) _ _
  refine Go_cut (σ := Unit) (fun _ => [(0, .v (.pointer (some ⟨br, 0, none⟩))), (3, .v (.pointer (some ⟨b3, 0, none⟩))), (5, .v (.bool (longP k r.text.size)))]) (fun _ => [.blk b3 58 [.int .u8 k, .int .i64 t, .int .i64 r.key, .string r.text]]) (fun _ => True) ?_ ?_
  · refine VC_sound tabOk 100 ?_
    (repeat (first | refine Or.inl ⟨rfl, rfl, ?_⟩ | refine Or.inl ⟨rfl, ?_⟩ | refine Or.inr ?_))
    refine ⟨fun h1 => ?_, fun h1 => ?_⟩
    rotate_left
    · exact Go_put () trivial ⟨rfl, rfl, congrArg Value.bool (by simp only [longP, h1, Bool.false_and]), trivial⟩ (fun _ h => h)
    (repeat (first | refine Or.inl ⟨rfl, rfl, ?_⟩ | refine Or.inl ⟨rfl, ?_⟩ | refine Or.inr ?_))
    refine ⟨fun h2 => ?_, fun h2 => ?_⟩
    · exact Go_put () trivial ⟨rfl, rfl, congrArg Value.bool (by simp only [longP, h1, h2, Bool.true_and, Bool.true_or]), trivial⟩ (fun _ h => h)
    (repeat (first | refine Or.inl ⟨rfl, rfl, ?_⟩ | refine Or.inl ⟨rfl, ?_⟩ | refine Or.inr ?_))
    exact Go_put () trivial ⟨rfl, rfl, congrArg Value.bool (by simp only [longP, h1, h2, Bool.true_and, Bool.false_or]), trivial⟩ (fun _ h => h)
  rintro _ _
  refine VC_sound tabOk 100 ?_
  (repeat (first | refine Or.inl ⟨rfl, rfl, ?_⟩ | refine Or.inl ⟨rfl, ?_⟩ | refine Or.inr ?_))
  refine ⟨fun h1 => ?_, fun h1 => ?_⟩
  rotate_left
  · exact congrArg Value.bool (by simp only [rightP, h1, Bool.false_and])
  (repeat (first | refine Or.inl ⟨rfl, rfl, ?_⟩ | refine Or.inl ⟨rfl, ?_⟩ | refine Or.inr ?_))
  refine ⟨fun h2 => ?_, fun h2 => ?_⟩
  rotate_left
  · exact congrArg Value.bool (by simp only [rightP, h1, h2, Bool.true_and, Bool.false_and])
  (repeat (first | refine Or.inl ⟨rfl, rfl, ?_⟩ | refine Or.inl ⟨rfl, ?_⟩ | refine Or.inr ?_))
  refine Go_ops rfl (OpTo_pcall (v := .pointer (heapAt ps t)) rfl rfl rfl rfl rfl (by kernel_rfl) (fun w hm _ => rel_heap br A c ps t w (hm.block_old hb) (hA.mod hm)) ?_)
  cases hh : heapAt ps t with
  | none =>
    refine VC_sound tabOk 100 ?_
    exact congrArg Value.bool (by simp only [rightP, h1, h2, hh, Bool.true_and]; rfl)
  | some a =>
    refine VC_sound tabOk 100 ?_
    exact congrArg Value.bool (by simp only [rightP, h1, h2, hh, Bool.true_and]; rfl)
end Go.Proofs.YtbhlkninmbafcaaGreat
