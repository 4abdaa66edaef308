/- What the reference of layer 8 does: New, Run. -/
import Derived.Test.YtbhlkninmbafcaaGreatR07d
set_option maxRecDepth 100000
set_option autoImplicit false
set_option linter.unusedVariables false
set_option linter.unusedSimpArgs false
namespace Go.Proofs.YtbhlkninmbafcaaGreat
open Go.RX Go Go.RowKit


def Hp.Q (br : Nat) (H : Hp) : List Res := hqR H.h br H.A H.c H.vs
def hsQ (br : Nat) (hs : List Hp) : List Res := hs.flatMap (Hp.Q br)
theorem hsQ_at {br : Nat} {hs : List Hp} {t : Nat} {H : Hp} (ht : hs[t]? = some H) : (hsQ br hs).Perm (Hp.Q br H ++ hsQ br (hs.eraseIdx t)) := by
  obtain ⟨hl, rfl⟩ := List.getElem?_eq_some_iff.1 ht
  have e : hs = hs.take t ++ hs[t] :: hs.drop (t + 1) := by simp
  rw [List.eraseIdx_eq_take_drop_succ]
  conv => lhs; rw [e]
  simp only [hsQ, List.flatMap_append, List.flatMap_cons]
  exact List.perm_append_comm_assoc _ _ _
theorem caq_at {br : Nat} {Ar : Option Addr} {cr : Nat} {R : List Int} {REST : List Res} {hs : List Hp} {t : Nat} {H : Hp} (ht : hs[t]? = some H) : (refB br Ar cr R ++ (REST ++ hsQ br hs)).Perm (hqX H.h br Ar cr R H.A H.c H.vs ++ (REST ++ hsQ br (hs.eraseIdx t))) := by
  have h1 := hsQ_at (br := br) ht
  refine (List.Perm.append_left _ (List.Perm.append_left REST h1)).trans ?_
  show (refB br Ar cr R ++ (REST ++ (hqR H.h br H.A H.c H.vs ++ hsQ br (hs.eraseIdx t)))).Perm ((hqR H.h br H.A H.c H.vs ++ refB br Ar cr R) ++ (REST ++ hsQ br (hs.eraseIdx t)))
  rw [List.append_assoc]
  refine (List.Perm.append_left _ (List.perm_append_comm_assoc _ _ _)).trans ?_
  exact List.perm_append_comm_assoc _ _ _
theorem caq_set {br : Nat} {Ar : Option Addr} {cr : Nat} {R : List Int} {REST : List Res} {hs : List Hp} {t : Nat} (hl : t < hs.length) (H : Hp) : (hqX H.h br Ar cr R H.A H.c H.vs ++ (REST ++ hsQ br (hs.eraseIdx t))).Perm (refB br Ar cr R ++ (REST ++ hsQ br (hs.set t H))) := by
  have h1 := caq_at (br := br) (Ar := Ar) (cr := cr) (R := R) (REST := REST) (hs := hs.set t H) (t := t) (H := H) (by rw [List.getElem?_set_self hl])
  rw [List.eraseIdx_set_eq] at h1
  exact h1.symm
theorem permNewQ {α : Type} (X B7 BH O BR : α) (t : List α) : (X :: B7 :: BH :: O :: BR :: t).Perm (B7 :: O :: BR :: (t ++ [BH, X])) := permNew X B7 BH O BR t

set_option maxHeartbeats 1000000 in
theorem q_new (br : Nat) (n : Int) (w0 : World) (hn : -9223372036854775808 ≤ n ∧ n ≤ 9223372036854775807) : Calls Tryz.prog 8 #[.pointer (some ⟨br, 0, none⟩), .int .i64 n] w0 fun e w' => ∃ v Rs', e = .returned v ∧ (∃ b8 A c hs, v = .pointer (some ⟨b8, 0, none⟩) ∧ hs.length = tabs n ∧ (∀ H ∈ hs, H.vs = []) ∧ Rs' = .blk b8 39 [.slice A (psH hs).length c] :: own encP 1 81 A c (psH hs) :: hsQ br hs) ∧ Mod [heapOf w0] Rs' w' ∧ Oth w0 w' := by
  refine enterN (tab := tab) Tryz.func8 rfl Tryz.ntmps8 rfl (args := [_, _]) rfl (Mod.start w0) ?_
  refine VC_sound tabOk 100 ?_
  intro b5 _
  refine Go_res _ (fun w h => h.own_nil (enc := encP) (k := 1) (T := 81) none) ?_
  refine Go_loop (σ := Option Addr × Nat × List Hp) (fun s => [(0, .v (.pointer (some ⟨br, 0, none⟩))), (1, .v (.int .i64 n)), (5, .v (.pointer (some ⟨b5, 0, none⟩))), (6, .v (.int .i64 s.2.2.length))]) (fun s => own encP 1 81 s.1 s.2.1 (psH s.2.2) :: .blk b5 39 [.slice s.1 (psH s.2.2).length s.2.1] :: hsQ br s.2.2)
    (fun s => s.2.2.length ≤ tabs n ∧ ∀ q ∈ s.2.2, q.vs = []) (fun s => tabs n - s.2.2.length) (none, 0, []) ⟨by simp, by simp⟩ ⟨rfl, rfl, rfl, rfl, trivial⟩ (fun _ h => h) ?_
  have h4 : tabs n ≤ 4 := by unfold tabs; omega
  have h14 : 1 ≤ tabs n := by unfold tabs; omega
  rintro ⟨A, c, hs⟩ ⟨hl, hq⟩
  dsimp only at hl hq ⊢
  have hpl := psH_len hs
  refine VC_sound tabOk 2 ?_
  show Go _ (KI.code (Code.region _ _ _) :: _) _ _
  refine Go_cut (σ := Unit) (fun _ => [(0, .v (.pointer (some ⟨br, 0, none⟩))), (1, .v (.int .i64 n)), (5, .v (.pointer (some ⟨b5, 0, none⟩))), (6, .v (.int .i64 hs.length)), (19, .v (.bool (decide (hs.length < tabs n))))]) (fun _ => own encP 1 81 A c (psH hs) :: .blk b5 39 [.slice A (psH hs).length c] :: hsQ br hs) (fun _ => True) ?_ ?_
  · have hT : ∀ b : Bool, (b = true ↔ hs.length < tabs n) → b = decide (hs.length < tabs n) := fun b hb => by
      cases b with
      | true => exact (decide_eq_true (hb.1 rfl)).symm
      | false => exact (decide_eq_false fun h => by have := hb.2 h; cases this).symm
    refine VC_sound tabOk 100 ?_
    refine ⟨fun g1 => ?_, fun g1 => ?_⟩
    rotate_left
    · exact Go_put () trivial ⟨rfl, rfl, rfl, rfl, congrArg Value.bool (hT false (by simp at g1 ⊢; omega)), trivial⟩ (fun _ h => h)
    refine ⟨fun g2 => ?_, fun g2 => ?_⟩
    · exact Go_put () trivial ⟨rfl, rfl, rfl, rfl, congrArg Value.bool (hT true (by simp at g1 g2 ⊢; unfold tabs; omega)), trivial⟩ (fun _ h => h)
    · refine Go_put () trivial ⟨rfl, rfl, rfl, rfl, congrArg Value.bool (hT _ ?_), trivial⟩ (fun _ h => h)
      simp at g1 g2 ⊢
      unfold tabs
      constructor
      · intro h; subst h; simp; omega
      · intro h; apply List.eq_nil_of_length_eq_zero; omega
  rintro _ _
  refine VC_sound tabOk 100 ?_
  refine ⟨fun hb => ?_, fun hb => ?_⟩
  · have hlt : hs.length < tabs n := by simpa using hb
    (repeat (first | refine Or.inl ⟨rfl, rfl, ?_⟩ | refine Or.inl ⟨rfl, ?_⟩ | refine Or.inr ?_))
    intro bh _
    intro b7 _
    show Go _ _ _ _
    refine Go_ops rfl (OpTo_append tabOk encP_is (ys := [some ⟨bh, 0, none⟩]) (i := 2) rfl rfl rfl rfl rfl rfl rfl rfl rfl rfl rfl (fun w hm _ => hm.blk_rd (i := 0) rfl) (by simp; omega) (by simp; omega) (fun A2 c2 => ?_))
    refine VC_sound tabOk 100 ?_
    (repeat (first | refine Or.inl ⟨rfl, rfl, ?_⟩ | refine Or.inl ⟨rfl, ?_⟩ | refine Or.inr ?_))
    refine ⟨_, wrap_i64 (n := (hs.length : Int) + 1) (by omega) (by omega), ?_⟩
    have e : psH (hs ++ [(⟨bh, none, 0, []⟩ : Hp)]) = psH hs ++ [some ⟨bh, 0, none⟩] := by simp [psH]
    have e2 : (psH hs ++ [some (⟨bh, 0, none⟩ : Addr)]).length = (psH hs).length + 1 := by simp
    have e3 : hsQ br (hs ++ [(⟨bh, none, 0, []⟩ : Hp)]) = hsQ br hs ++ hqR bh br none 0 [] := by simp [hsQ, Hp.Q]
    refine Go_fin (A2, c2, hs ++ [(⟨bh, none, 0, []⟩ : Hp)]) ⟨by simp; omega, fun q hq2 => ?_⟩ (by simp; omega) ⟨rfl, rfl, rfl, ?_, trivial⟩ (fun _ h => ?_)
    · rcases List.mem_append.1 hq2 with h | h
      · exact hq q h
      · simp at h; subst h; rfl
    · exact congrArg (Value.int .i64) (by simp)
    · have h1 := (h.own_nil (enc := encV) (k := 4) (T := 123) none)
      have h2 := (h1.permRs (permNew _ _ _ _ _ _)).dropAt 0
      dsimp only
      rw [e, e2, e3]
      exact h2
  · have hlen : hs.length = tabs n := by simp at hb; omega
    exact ⟨_, ⟨b5, A, c, hs, rfl, hlen, hq, rfl⟩, fun _ _ h => h.permRs (List.Perm.swap _ _ _)⟩

/-! ### Run -/
def RelQF (hfs : List PH) (b8 : Nat) (Ap : Option Addr) (cp : Nat) (ps : List (Option Addr)) : Prop := ∀ Rs w, Mod hfs Rs w → w.heap[b8]? = some (.cells #[.slice Ap ps.length cp] 39 (0, 0)) ∧ RdW w Ap (ps.flatMap encP)
theorem RelQF.of_split {hb hfs : List PH} {Rr : List Res} (hsp : ∀ a' w', Mod (hb ++ hfs) a' w' → Mod hfs (a' ++ Rr) w') {b8 : Nat} {Ap : Option Addr} {cp : Nat} {ps : List (Option Addr)} (h : ∀ Rs w, Mod hfs (Rs ++ Rr) w → w.heap[b8]? = some (.cells #[.slice Ap ps.length cp] 39 (0, 0)) ∧ RdW w Ap (ps.flatMap encP)) : RelQF (hb ++ hfs) b8 Ap cp ps :=
  fun Rs w hm => h Rs w (hsp Rs w hm)
theorem right_not {k t : Int} {n : Nat} {hs : List Hp} (hk : 0 ≤ k) : (!rightP k (psH hs) t n) = (decide (k < 1) || (decide (6 < k) || (decide (t < 0) || (decide ((hs.length : Int) ≤ t) || (decide (k < 3) && decide (40 < (n : Int))))))) := by
  have hh : (heapAt (psH hs) t).isSome = decide (0 ≤ t ∧ t < hs.length) := by
    by_cases ht : t < 0 ∨ (hs.length : Int) ≤ t
    · rw [psH_out ht]
      simp; omega
    · obtain ⟨H, hH⟩ : ∃ H, hs[t.toNat]? = some H := ⟨_, List.getElem?_eq_getElem (by omega)⟩
      have := psH_at hH
      rw [show ((t.toNat : Nat) : Int) = t from by omega] at this
      rw [this]
      simp; omega
  rw [rightP, hh, longP]
  by_cases h1 : k < 1
  · have : ¬ 1 ≤ k := by omega
    simp [h1, this]
  by_cases h6 : 6 < k
  · have : ¬ k ≤ 6 := by omega
    simp [h6, this]
  by_cases h0 : t < 0
  · have : ¬ 0 ≤ t := by omega
    simp [h0, this]
  by_cases h2 : (hs.length : Int) ≤ t
  · have : ¬ t < hs.length := by omega
    simp [h2, this]
  have e1 : 1 ≤ k := by omega
  have e2 : k ≤ 6 := by omega
  have e3 : 0 ≤ t := by omega
  have e4 : t < hs.length := by omega
  have e5 : (decide (k = 1) || decide (k = 2)) = decide (k < 3) := by
    by_cases h : k < 3
    · rcases (by omega : k = 1 ∨ k = 2) with rfl | rfl <;> simp
    · have a1 : ¬ k = 1 := by omega
      have a2 : ¬ k = 2 := by omega
      simp [h, a1, a2]
  simp [h1, h6, h0, h2, e1, e2, e3, e4, e5, Bool.and_comm]

set_option maxHeartbeats 8000000 in
theorem q_run (b8 : Nat) (Ap : Option Addr) (cp : Nat) (hs : List Hp) (h br : Nat) (Ar : Option Addr) (cr : Nat) (R : List Int) (A : Option Addr) (c : Nat) (vs : List VerM) (v : VwM) (k t : Int) (r : RowM) (hR : R.length ≤ 2000000) (hn : vs.length ≤ 9999) (hl : v.op.length ≤ 1000000) (hk0 : 0 ≤ k)
    (hright : rightP k (psH hs) t r.text.size = true) (hh : heapAt (psH hs) t = some ⟨h, 0, none⟩) (hhl : hs.length ≤ 1000) (w0 : World) (hfs : List PH) (hm : Mod hfs (hqX h br Ar cr R A c vs) w0) (hS : RdF hfs v.S (v.op.flatMap (encI .i64))) (hF : RelQF hfs b8 Ap cp (psH hs)) :
    Calls Tryz.prog 16 #[.pointer (some ⟨b8, 0, none⟩), v.v, mkSt k t r] w0 fun e w' => ∃ u Rs', e = .returned u ∧ (∃ e ys A2 c2 vs' A' c', runR (rState R) v vs k r e ys vs' ∧ u = .tuple #[.slice A2 ys.length c2, .int .i64 e] ∧ Rs' = own encR 2 55 A2 c2 ys :: hqX h br Ar cr R A' c' vs') ∧ Mod hfs Rs' w' ∧ Oth w0 w' := by
  have hk : 1 ≤ k ∧ k ≤ 6 := by
    simp only [rightP, Bool.and_eq_true, decide_eq_true_eq] at hright
    exact ⟨hright.1, hright.2.1⟩
  have hnt := right_not (t := t) (n := r.text.size) (hs := hs) hk0
  rw [hright] at hnt
  have hnt := hnt.symm
  simp only [Bool.not_true, Bool.or_eq_false_iff] at hnt
  obtain ⟨n1, n2, n3, n4, n5⟩ := hnt
  have ht0 : 0 ≤ t ∧ t < hs.length := by simp at n3 n4; omega
  have hpl := psH_len hs
  have hgp : (psH hs)[t.toNat]? = some (some ⟨h, 0, none⟩) := by
    rw [heapAt, if_pos ht0.1] at hh
    cases hg : (psH hs)[t.toNat]? with
    | none => rw [hg] at hh; cases hh
    | some a => rw [hg] at hh; exact congrArg some hh
  refine enterN (tab := tab) Tryz.func16 rfl Tryz.ntmps16 rfl (args := [_, _, _]) rfl hm ?_
  refine VC_sound tabOk 100 ?_
  intro b4 _ b5 _
  refine Go_with _ (fun w hm _ => RdW.some encP_is (hF _ w hm).2 (ne_nil_of_lt (by omega : 0 < (psH hs).length))) ?_
  rintro ⟨bp, op, rfl⟩
  refine Go_cut (σ := Unit) (fun _ => [(0, .v (.pointer (some ⟨b8, 0, none⟩))), (4, .v (.pointer (some ⟨b4, 0, none⟩))), (5, .v (.pointer (some ⟨b5, 0, none⟩))), (45, .v (.bool false))]) (fun _ => .blk b5 57 [.int .u8 k, .int .i64 t, .int .i64 r.key, .string r.text] :: .blk b4 50 v.cs :: hqX h br Ar cr R A c vs) (fun _ => True) ?_ ?_
  · refine Go_any mixed [] [(0, false), (1, false), (2, false), (3, false), (4, false), (5, false), (6, false), (7, false), (8, false), (9, false), (10, false), (11, false), (12, false), (13, false), (14, false), (16, false), (17, false), (18, false), (15, false), (19, false), (20, false), (21, false), (22, false), (23, false), (24, false), (25, false), (26, false), (27, false), (28, false), (29, false), (30, false), (31, false), (32, false), (33, false), (34, false)] rfl (by kernel_rfl) (by kernel_rfl) [.blk b5 57 [.int .u8 k, .int .i64 t, .int .i64 r.key, .string r.text]] (fun w => w.heap[b8]? = some (.cells #[.slice (some ⟨bp, op, none⟩) (psH hs).length cp] 39 (0, 0))) (fun w w' hk h => (hk _ (Array.getElem?_eq_some_iff.1 h).1).trans h) (fun w hm _ => ⟨Holds.of_idx [0] hm, (hF _ w hm).1⟩) ?_
    refine VC_sound tabOk 100 ?_
    (repeat (first | refine Or.inl ⟨rfl, rfl, ?_⟩ | refine Or.inl ⟨rfl, ?_⟩ | refine Or.inr ?_))
    refine ⟨fun g => (by rw [n1] at g; cases g), fun _ => ?_⟩
    (repeat (first | refine Or.inl ⟨rfl, rfl, ?_⟩ | refine Or.inl ⟨rfl, ?_⟩ | refine Or.inr ?_))
    refine ⟨fun g => (by rw [n2] at g; cases g), fun _ => ?_⟩
    (repeat (first | refine Or.inl ⟨rfl, rfl, ?_⟩ | refine Or.inl ⟨rfl, ?_⟩ | refine Or.inr ?_))
    refine ⟨fun g => (by rw [n3] at g; cases g), fun _ => ?_⟩
    (repeat (first | refine Or.inl ⟨rfl, rfl, ?_⟩ | refine Or.inl ⟨rfl, ?_⟩ | refine Or.inr ?_))
    refine Go_first (v := .slice (some ⟨bp, op, none⟩) (psH hs).length cp) rfl rfl rfl rfl (fun w _ hw => run_loadVar_at tabOk rfl hw rfl) ?_
    refine VC_sound tabOk 100 ?_
    refine ⟨fun g => (by simp at g; omega), fun _ => ?_⟩
    (repeat (first | refine Or.inl ⟨rfl, rfl, ?_⟩ | refine Or.inl ⟨rfl, ?_⟩ | refine Or.inr ?_))
    refine ⟨fun g => ?_, fun g => ?_⟩
    · (repeat (first | refine Or.inl ⟨rfl, rfl, ?_⟩ | refine Or.inl ⟨rfl, ?_⟩ | refine Or.inr ?_))
      have n6 : decide (40 < (r.text.size : Int)) = false := by rw [g, Bool.true_and] at n5; exact n5
      exact Go_put () trivial ⟨rfl, rfl, rfl, congrArg Value.bool n6, trivial⟩ (fun _ h => h)
    · exact Go_put () trivial ⟨rfl, rfl, rfl, rfl, trivial⟩ (fun _ h => h)
  rintro _ _
  refine VC_sound tabOk 100 ?_
  refine ⟨fun h => by first | (simp at h; done) | (simp at h; omega) | (simp_all; done), fun _ => ?_⟩
  show Go _ _ _ _
  refine Go_any mixed [] [(0, false), (1, false), (2, false), (4, false), (3, false), (5, false), (6, false), (7, false), (8, false)] rfl (by kernel_rfl) (by kernel_rfl) [.blk b5 57 [.int .u8 k, .int .i64 t, .int .i64 r.key, .string r.text]] (fun w => w.heap[b8]? = some (.cells #[.slice (some ⟨bp, op, none⟩) (psH hs).length cp] 39 (0, 0)) ∧ RdW w (some ⟨bp, op, none⟩) ((psH hs).flatMap encP)) (fun w w' hk h => ⟨(hk _ (Array.getElem?_eq_some_iff.1 h.1).1).trans h.1, h.2.old hk⟩) (fun w hm _ => ⟨Holds.of_idx [0] hm, hF _ w hm⟩) ?_
  refine VC_sound tabOk 100 ?_
  (repeat (first | refine Or.inl ⟨rfl, rfl, ?_⟩ | refine Or.inl ⟨rfl, ?_⟩ | refine Or.inr ?_))
  refine Go_first (v := .slice (some ⟨bp, op, none⟩) (psH hs).length cp) rfl rfl rfl rfl (fun w _ hw => run_loadVar_at tabOk rfl hw.1 rfl) ?_
  refine VC_sound tabOk 100 ?_
  (repeat (first | refine Or.inl ⟨rfl, rfl, ?_⟩ | refine Or.inl ⟨rfl, ?_⟩ | refine Or.inr ?_))
  refine ⟨⟨by omega, by omega⟩, ?_⟩
  (repeat (first | refine Or.inl ⟨rfl, rfl, ?_⟩ | refine Or.inl ⟨rfl, ?_⟩ | refine Or.inr ?_))
  refine Go_first (v := .pointer (some ⟨h, 0, none⟩)) rfl rfl rfl rfl (fun w _ hw => rxLoadRow tabOk rfl encP_is rfl (fun h => rfl) hw.2 hgp (by simp only [addA]) rfl) ?_
  refine VC_sound tabOk 100 ?_
  (repeat (first | refine Or.inl ⟨rfl, rfl, ?_⟩ | refine Or.inl ⟨rfl, ?_⟩ | refine Or.inr ?_))
  refine ⟨fun h1 => ?_, fun h1 => ?_⟩
  · have hk1 : k = 1 := by simpa using h1
    (repeat (first | refine Or.inl ⟨rfl, rfl, ?_⟩ | refine Or.inl ⟨rfl, ?_⟩ | refine Or.inr ?_))
    refine Go_sel [2, 3, 4, 5, 0, 1] rfl ?_
    show Go _ _ _ _
    show Go _ _ _ _
    refine Go_ops rfl (OpTo_mcall (hqX h br Ar cr R A c vs) [.blk b5 57 [.int .u8 k, .int .i64 t, .int .i64 r.key, .string r.text], .blk b4 50 v.cs] (List.Perm.of_eq rfl) rfl rfl rfl rfl rfl (by kernel_rfl) (fun w hb hm hio hsp kk => r7_insert h br Ar cr R A c vs v r hR (by omega) hl w _ kk (RdF.of_split hsp fun Rs w h => hS _ w h)) ?_)
    rintro _ _ ⟨rfl, A2, c2, rfl⟩
    refine VC_sound tabOk 100 ?_
    exact ⟨_, ⟨_, [], none, 0, _, A2, c2, .inl ⟨hk1, rfl, rfl, rfl⟩, rfl, rfl⟩, fun _ _ h => (h.own_nil (enc := encR) (k := 2) (T := 55) none).sel [0, 1, 2, 3, 4] rfl⟩
  refine ⟨fun h2 => ?_, fun h2 => ?_⟩
  · have hk2 : k = 2 := by simpa using h2
    (repeat (first | refine Or.inl ⟨rfl, rfl, ?_⟩ | refine Or.inl ⟨rfl, ?_⟩ | refine Or.inr ?_))
    refine Go_sel [2, 3, 4, 5, 0, 1] rfl ?_
    show Go _ _ _ _
    show Go _ _ _ _
    refine Go_ops rfl (OpTo_mcall (hqX h br Ar cr R A c vs) [.blk b5 57 [.int .u8 k, .int .i64 t, .int .i64 r.key, .string r.text], .blk b4 50 v.cs] (List.Perm.of_eq rfl) rfl rfl rfl rfl rfl (by kernel_rfl) (fun w hb hm hio hsp kk => r7_update h br Ar cr R A c vs v r hR (by omega) hl w _ kk (RdF.of_split hsp fun Rs w h => hS _ w h)) ?_)
    rintro _ _ ⟨e, vs', A2, c2, hq, rfl, rfl⟩
    refine VC_sound tabOk 100 ?_
    exact ⟨_, ⟨e, [], none, 0, _, A2, c2, .inr (.inl ⟨hk2, rfl, hq⟩), rfl, rfl⟩, fun _ _ h => (h.own_nil (enc := encR) (k := 2) (T := 55) none).sel [0, 1, 2, 3, 4] rfl⟩
  refine ⟨fun h3 => ?_, fun h3 => ?_⟩
  · have hk3 : k = 3 := by simpa using h3
    (repeat (first | refine Or.inl ⟨rfl, rfl, ?_⟩ | refine Or.inl ⟨rfl, ?_⟩ | refine Or.inr ?_))
    refine Go_sel [2, 3, 4, 5, 0, 1] rfl ?_
    show Go _ _ _ _
    show Go _ _ _ _
    refine Go_ops rfl (OpTo_mcall (hqX h br Ar cr R A c vs) [.blk b5 57 [.int .u8 k, .int .i64 t, .int .i64 r.key, .string r.text], .blk b4 50 v.cs] (List.Perm.of_eq rfl) rfl rfl rfl rfl rfl (by kernel_rfl) (fun w hb hm hio hsp kk => r7_delete h br Ar cr R A c vs v r.key hR (by omega) hl w _ kk (RdF.of_split hsp fun Rs w h => hS _ w h)) ?_)
    rintro _ _ ⟨e, vs', hq, rfl, rfl⟩
    refine VC_sound tabOk 100 ?_
    exact ⟨_, ⟨e, [], none, 0, _, A, c, .inr (.inr (.inl ⟨hk3, rfl, hq⟩)), rfl, rfl⟩, fun _ _ h => (h.own_nil (enc := encR) (k := 2) (T := 55) none).sel [0, 1, 2, 3, 4] rfl⟩
  refine ⟨fun h4 => ?_, fun h4 => ?_⟩
  · have hk4 : k = 4 := by simpa using h4
    (repeat (first | refine Or.inl ⟨rfl, rfl, ?_⟩ | refine Or.inl ⟨rfl, ?_⟩ | refine Or.inr ?_))
    refine Go_sel [2, 3, 4, 5, 0, 1] rfl ?_
    show Go _ _ _ _
    show Go _ _ _ _
    refine Go_ops rfl (OpTo_mcall (hqX h br Ar cr R A c vs) [.blk b5 57 [.int .u8 k, .int .i64 t, .int .i64 r.key, .string r.text], .blk b4 50 v.cs] (List.Perm.of_eq rfl) rfl rfl rfl rfl rfl (by kernel_rfl) (fun w hb hm hio hsp kk => r7_truncate h br Ar cr R A c vs v hR (by omega) hl w _ kk (RdF.of_split hsp fun Rs w h => hS _ w h)) ?_)
    rintro _ _ ⟨e, ys, A2, c2, vs', hq, rfl, rfl⟩
    refine VC_sound tabOk 100 ?_
    exact ⟨_, ⟨e, ys, A2, c2, _, A, c, .inr (.inr (.inr (.inl ⟨hk4, hq⟩))), rfl, rfl⟩, fun _ _ h => h.sel [0, 1, 2, 3, 4] rfl⟩
  refine ⟨fun h5 => ?_, fun h5 => ?_⟩
  · have hk5 : k = 5 := by simpa using h5
    (repeat (first | refine Or.inl ⟨rfl, rfl, ?_⟩ | refine Or.inl ⟨rfl, ?_⟩ | refine Or.inr ?_))
    refine Go_ops rfl (OpTo_pcall (v := getV (rState R) v vs r.key) rfl rfl rfl rfl rfl (by kernel_rfl) (fun w hm _ => r7_get h br Ar cr R A c vs v w (RpAt.of hm 2 rfl rfl rfl rfl) hR r.key (by omega) (hS _ w hm) hl) ?_)
    cases hg : vs.find? (findP (rState R) v r.key) with
    | none =>
      simp only [getV, hg]
      refine VC_sound tabOk 100 ?_
      intro b9 _
      (repeat (first | refine Or.inl ⟨rfl, rfl, ?_⟩ | refine Or.inl ⟨rfl, ?_⟩ | refine Or.inr ?_))
      refine ⟨fun _ => ?_, fun h => by first | (simp at h; done) | (simp at h; omega) | (simp_all; done)⟩
      exact ⟨_, ⟨4, [], none, 0, _, A, c, .inr (.inr (.inr (.inr (.inl ⟨hk5, rfl, .inl ⟨hg, rfl, rfl⟩⟩)))), rfl, rfl⟩, fun _ _ h => (h.own_nil (enc := encR) (k := 2) (T := 55) none).sel [0, 4, 5, 6, 7] rfl⟩
    | some x =>
      simp only [getV, hg]
      refine VC_sound tabOk 100 ?_
      intro b9 _
      (repeat (first | refine Or.inl ⟨rfl, rfl, ?_⟩ | refine Or.inl ⟨rfl, ?_⟩ | refine Or.inr ?_))
      refine ⟨fun h => by first | (simp at h; done) | (simp at h; omega) | (simp_all; done), fun _ => ?_⟩
      (repeat (first | refine Or.inl ⟨rfl, rfl, ?_⟩ | refine Or.inl ⟨rfl, ?_⟩ | refine Or.inr ?_))
      intro b68 _
      exact ⟨_, ⟨0, [rowOf x], some ⟨b68, 0, none⟩, 1, _, A, c, .inr (.inr (.inr (.inr (.inl ⟨hk5, rfl, .inr ⟨x, hg, rfl, rfl⟩⟩)))), rfl, rfl⟩, fun _ _ h => ((h.own_blk (enc := encR) (k := 2) (i := 0) (xs := [rowOf x]) rfl rfl (by simp)).sel [0, 4, 5, 6, 7] rfl)⟩
  have hk6 : k = 6 := by simp at h1 h2 h3 h4 h5; omega
  (repeat (first | refine Or.inl ⟨rfl, rfl, ?_⟩ | refine Or.inl ⟨rfl, ?_⟩ | refine Or.inr ?_))
  show Go _ _ _ _
  refine Go_ops rfl (OpTo_ncall rfl rfl rfl rfl rfl (by kernel_rfl) (fun w hm _ => r7_scan h br Ar cr R A c vs v w (RpAt.of hm 2 rfl rfl rfl rfl) hR (hS _ w hm) hl (by omega)) ?_)
  rintro _ _ ⟨ys, hy, A2, c2, rfl, rfl⟩
  refine VC_sound tabOk 100 ?_
  exact ⟨_, ⟨0, ys, A2, c2, _, A, c, .inr (.inr (.inr (.inr (.inr ⟨hk6, rfl, rfl, hy⟩)))), rfl, rfl⟩, fun _ _ h => h.sel [0, 3, 4, 5, 6] rfl⟩
end Go.Proofs.YtbhlkninmbafcaaGreat
