/- The law SpoolOrder: what its run comes to. -/
import Derived.Test.YtdkalgnjfbbokaaL10c
set_option autoImplicit false
set_option linter.unusedVariables false
set_option linter.unusedSimpArgs false
namespace Go.Proofs.Ytdkalgnjfbbokaa
open Go.RX Go Go.RowKit Go.ChangeShapes Go.WideShapes Go.ChangeAt


/-! ### the plain law -/
theorem SameBy.pairs {κ α : Type} [DecidableEq κ] {key : α → κ} {R : α → α → Prop} {xs ys : List α} (h : SameBy key xs ys) (hR : xs.Pairwise R) : ys.Pairwise fun a b => key a = key b → R a b := by
  rw [List.pairwise_iff_forall_sublist]
  intro a b hab hk
  have h1 : [a, b].Sublist (ys.filter fun x => decide (key x = key b)) := by
    have := hab.filter (fun x => decide (key x = key b))
    simpa [hk] using this
  rw [← h (key b)] at h1
  exact List.pairwise_iff_forall_sublist.1 hR (h1.trans List.filter_sublist)

abbrev evO (id i : Int) : EventM := ⟨id, 0, ⟨#[]⟩, 0, i, 0, 0, ⟨#[]⟩⟩
/-- An act's table. -/
def acK (l : List ActM) (i : Int) : Int := match l[i.toNat]? with
  | some a => a.d.tmod 3
  | none => 0
/-- What stands in a table: of it, in their order, of acts that there are. -/
structure TbO (l : List ActM) (k i : Nat) (xs : List EventM) : Prop where
  at_ : ∀ e ∈ xs, 0 ≤ e.table ∧ e.table < i ∧ acK l e.table = k
  ord : xs.Pairwise fun a b => a.table < b.table
theorem TbO.nil (l : List ActM) (k i : Nat) : TbO l k i [] := ⟨by simp, List.Pairwise.nil⟩
theorem TbO.up {l : List ActM} {k i : Nat} {xs : List EventM} (h : TbO l k i xs) : TbO l k (i + 1) xs := ⟨fun e he => by have := h.at_ e he; exact ⟨this.1, by omega, this.2.2⟩, h.ord⟩
theorem TbO.put {l : List ActM} {k i : Nat} {xs : List EventM} (h : TbO l k i xs) (id : Int) (hk : acK l i = k) : TbO l k (i + 1) (xs ++ [evO id i]) := by
  refine ⟨fun e he => ?_, List.pairwise_append.2 ⟨h.ord, by simp, fun a ha b hb => ?_⟩⟩
  · rcases List.mem_append.1 he with he | he
    · exact h.up.at_ e he
    · simp at he; subst he
      exact ⟨by simp [evO], by simp [evO]; omega, hk⟩
  · simp at hb; subst hb
    have := h.at_ a ha
    simp [evO]; omega
abbrev RO (l : List ActM) (a b : EventM) : Prop := (0 ≤ a.table ∧ a.table < l.length ∧ 0 ≤ b.table ∧ b.table < l.length) ∧ (acK l a.table < acK l b.table ∨ acK l a.table = acK l b.table ∧ a.table < b.table)
theorem pre3_RO (l : List ActM) (T : Tbs) (h : ∀ k, k < 3 → TbO l k l.length (get3 T k).xs) : (pre3 T.1 T.2.1 T.2.2 3).Pairwise (RO l) := by
  have h0 : TbO l 0 l.length T.1.xs := h 0 (by omega)
  have h1 : TbO l 1 l.length T.2.1.xs := h 1 (by omega)
  have h2 : TbO l 2 l.length T.2.2.xs := h 2 (by omega)
  have inn : ∀ (k : Nat) (xs : List EventM), TbO l k l.length xs → xs.Pairwise (RO l) := fun k xs h => by
    refine List.Pairwise.imp_of_mem (fun {a b} ha hb hab => ?_) h.ord
    have ka := h.at_ a ha
    have kb := h.at_ b hb
    exact ⟨⟨ka.1, ka.2.1, kb.1, kb.2.1⟩, .inr ⟨by rw [ka.2.2, kb.2.2], hab⟩⟩
  have acr : ∀ (k j : Nat) (xs ys : List EventM), k < j → TbO l k l.length xs → TbO l j l.length ys → ∀ a ∈ xs, ∀ b ∈ ys, RO l a b := fun k j xs ys hkj hx hy a ha b hb => by
    have ka := hx.at_ a ha
    have kb := hy.at_ b hb
    exact ⟨⟨ka.1, ka.2.1, kb.1, kb.2.1⟩, .inl (by rw [ka.2.2, kb.2.2]; omega)⟩
  refine List.pairwise_append.2 ⟨List.pairwise_append.2 ⟨inn _ _ h0, inn _ _ h1, acr 0 1 _ _ (by omega) h0 h1⟩, inn _ _ h2, fun a ha b hb => ?_⟩
  rcases List.mem_append.1 ha with ha | ha
  · exact acr 0 2 _ _ (by omega) h0 h2 a ha b hb
  · exact acr 1 2 _ _ (by omega) h1 h2 a ha b hb

set_option maxHeartbeats 16000000 in
theorem l10_SpoolOrder (A : Option Addr) (c : Nat) (l : List ActM) (w0 : World) (hr : RdW w0 A (l.flatMap encA)) (hok : ∀ z ∈ l, okA w0 z) :
    Calls Try.prog 4 #[.slice A l.length c] w0 fun e w' => e = .returned (.bool true) ∧ Below w0.heap.size w0 w' := by
  refine enterP (tab := tab) Try.func4 rfl Try.ntmps4 rfl (args := [_]) rfl ?_
  refine VC_sound tabOk 100 ?_
  refine Go_ops rfl (OpTo_pcall (v := .bool true) rfl rfl rfl rfl rfl (by kernel_rfl) (fun w hm _ => l10_turns w) ?_)
  refine VC_sound tabOk 100 ?_
  refine ⟨fun h => by first | (simp at h; done) | (simp at h; omega) | (simp_all; done), fun _ => ?_⟩
  refine ⟨fun hc => ?_, fun hc => ?_⟩
  · refine Go_ops rfl (OpTo_pcall (v := .bool true) rfl rfl rfl rfl rfl (by kernel_rfl) (fun w hm _ => l10_turns w) ?_)
    refine VC_sound tabOk 100 ?_
    rfl
  have hl60 : l.length ≤ 60 := by simp at hc; omega
  show Go _ _ _ _
  refine Go_ops rfl (OpTo_ncall rfl rfl rfl rfl rfl (by kernel_rfl) (fun w hm _ => spool_new w) ?_)
  rintro _ _ ⟨bs, rfl, rfl⟩
  refine VC_sound tabOk 100 ?_
  refine Go_loop (σ := Nat × Tbs) (fun s => [(0, .v (.slice A l.length c)), (3, .v (.pointer (some ⟨bs, 0, none⟩))), (4, .v (.int .i64 s.1))]) (fun s => spT bs s.2 0) (fun s => s.1 ≤ l.length ∧ len3 s.2 = s.1 ∧ ∀ k, k < 3 → TbO l k s.1 (get3 s.2 k).xs) (fun s => l.length - s.1) (0, noTb, noTb, noTb) ⟨Nat.zero_le _, rfl, fun k hk => by have : k = 0 ∨ k = 1 ∨ k = 2 := (by omega); rcases this with rfl | rfl | rfl <;> exact TbO.nil _ _ _⟩ ⟨rfl, rfl, rfl, trivial⟩ (fun _ h => h) ?_
  rintro ⟨i, T⟩ ⟨hi, hT, hO⟩
  dsimp only at hi hT hO ⊢
  refine VC_sound tabOk 100 ?_
  refine ⟨fun hc => ?_, fun hc => ?_⟩
  · have hlt : i < l.length := by simpa using hc
    obtain ⟨bl, ol, rfl⟩ := RdW.some encA_is hr (ne_nil_of_lt hlt)
    obtain ⟨e, hge⟩ : ∃ e, l[i]? = some e := ⟨_, List.getElem?_eq_getElem hlt⟩
    have ho := hok e (List.mem_of_getElem? hge)
    have hd := bounds_u8 ho.1
    obtain ⟨K, hK, hK3⟩ := tmod_nat 3 (by decide) hd.1
    have hacK : acK l i = K := by simp [acK, hge, hK]
    show Go _ _ _ _
    refine Go_any mixed [15] [(0, false), (1, false), (2, false), (3, false), (4, false), (8, false), (9, false), (10, false), (11, false), (13, false), (5, false), (6, false), (7, false), (12, false), (14, false), (15, true)] rfl (by kernel_rfl) (by kernel_rfl) [] (fun w => RdW w (some ⟨bl, ol, none⟩) (l.flatMap encA)) (fun w w' hk h => h.old hk) (fun w hm _ => ⟨trivial, hr.mod hm⟩) ?_
    refine VC_sound tabOk 100 ?_
    refine ⟨⟨by omega, by omega⟩, ?_⟩
    refine ⟨⟨by omega, by omega⟩, ?_⟩
    refine Go_first (v := .int .u8 e.d) rfl rfl rfl rfl (fun w _ hw => rxLoadPart tabOk rfl encA_is hw hge (off := 0) rfl (by simp only [addA]; rfl)) ?_
    refine VC_sound tabOk 100 ?_
    refine ⟨by decide, _, hK.symm, ?_⟩
    refine ⟨_, wrap_i64 (n := (K : Int)) (by omega) (by omega), ?_⟩
    refine Go_first (v := .int .i64 e.id) rfl rfl rfl rfl (fun w _ hw => rxLoadPart tabOk rfl encA_is hw hge (off := 2) rfl (by simp only [addA]; rfl)) ?_
    refine VC_sound tabOk 100 ?_
    have hle0 := len3_le T 0 (by omega)
    have hle1 := len3_le T 1 (by omega)
    have hle2 := len3_le T 2 (by omega)
    simp only [get3, pick3] at hle0 hle1 hle2
    refine Go_aloneM rfl rfl rfl (OpTo_mcall (spT bs T 0) [] (List.Perm.of_eq (by simp)) rfl rfl rfl rfl rfl (by kernel_rfl) (fun w hb hm hio hsp k => spool_addTo bs T.1 T.2.1 T.2.2 0 K (evO e.id i) w _ k (by omega) (by omega) (by omega) (by omega)) ?_)
    rintro _ _ ⟨A', c', rfl, rfl⟩
    rw [spSet_eq]
    refine VC_sound tabOk 100 ?_
    have hT1 : len3 (set3 T K ⟨A', c', (get3 T K).xs ++ [evO e.id i]⟩) = len3 T + 1 := sum_set3 _ T K _ 1 (by omega) (by simp)
    refine ⟨_, wrap_i64 (n := (i : Int) + 1) (by omega) (by omega), ?_⟩
    refine Go_fin (i + 1, set3 T K ⟨A', c', (get3 T K).xs ++ [evO e.id i]⟩) ⟨by dsimp only; omega, by dsimp only; omega, fun k hk => ?_⟩ (by dsimp only; omega) ⟨rfl, rfl, rfl, trivial⟩ (fun _ h => h.sel [0, 1, 2, 3] rfl)
    dsimp only
    rw [get_set3 T K k _ (by omega) hk]
    by_cases hkK : k = K
    · subst hkK
      rw [if_pos rfl]
      exact (hO k hk).put _ hacK
    · rw [if_neg hkK]
      exact (hO k hk).up
  have he : i = l.length := by simp at hc; omega
  subst he
  have hpw := pre3_RO l T hO
  have hpl := pre3_len T
  show Go _ _ _ _
  refine Go_ops rfl (OpTo_ncall rfl rfl rfl rfl rfl (by kernel_rfl) (fun w hm _ => spool_all bs T.1 T.2.1 T.2.2 0 w (hm.blk_at (i := 0) rfl) (fun i => by
    match i with
    | 0 => exact hm.own_rd (i := 1) rfl
    | 1 => exact hm.own_rd (i := 2) rfl
    | i + 2 => exact hm.own_rd (i := 3) rfl) (by omega)) ?_)
  rintro _ _ ⟨ys, ⟨s1, s2, s3⟩, A1, c1, rfl, rfl⟩
  refine VC_sound tabOk 100 ?_
  have hyp := SameBy.pairs s1 hpw
  have hyl : ys.length = l.length := by omega
  refine Go_loop (σ := Nat) (fun i => [(0, .v (.slice A l.length c)), (3, .v (.pointer (some ⟨bs, 0, none⟩))), (5, .v (.slice A1 ys.length c1)), (6, .v (.int .i64 i))]) (fun _ => own encE 8 29 A1 c1 ys :: spT bs T 0) (fun i => 1 ≤ i ∧ i ≤ ys.length + 1) (fun i => ys.length + 1 - i) 1 ⟨Nat.le_refl _, by omega⟩ ⟨rfl, rfl, rfl, rfl, trivial⟩ (fun _ h => h) ?_
  rintro i ⟨hi1, hi⟩
  dsimp only at hi1 hi ⊢
  by_cases hlt : i < ys.length
  · have hlt1 : i - 1 < ys.length := by omega
    refine Go_with _ (fun w hm _ => hm.own_some (i := 0) rfl (ne_nil_of_lt hlt)) ?_
    rintro ⟨b, o, rfl⟩
    obtain ⟨bl, ol, rfl⟩ := RdW.some encA_is hr (ne_nil_of_lt (by omega : 0 < l.length))
    have hrise : ys[i - 1].id ≤ ys[i].id := by
      have := s2.at_ ordI (List.getElem?_eq_getElem hlt1) (List.getElem?_eq_getElem hlt) (by omega)
      simpa [ltI] using this
    have hRO := List.pairwise_iff_getElem.1 hyp (i - 1) i hlt1 hlt (by omega)
    refine VC_sound tabOk 100 ?_
    refine ⟨fun _ => ?_, fun h => by first | (simp at h; done) | (simp at h; omega) | (simp_all; done)⟩
    show Go _ _ _ _
    refine Go_any mixed [12] [(0, false), (1, false), (2, false), (3, false), (5, false), (6, false), (7, false), (4, false), (8, false), (99, false), (99, false), (99, false), (99, false)] rfl (by kernel_rfl) (by kernel_rfl) [] (fun w => RdW w (some ⟨b, o, none⟩) (ys.flatMap encE)) (fun w w' hk h => h.old hk) (fun w hm _ => ⟨trivial, by exact Mod.own_rd (k := 8) (T := 29) (c := c1) (i := 0) hm rfl⟩) ?_
    refine VC_sound tabOk 100 ?_
    refine ⟨_, wrap_i64 (n := (i : Int) - 1) (by omega) (by omega), ?_⟩
    refine ⟨⟨by omega, by omega⟩, ?_⟩
    refine ⟨⟨by omega, by omega⟩, ?_⟩
    have x1 : ((i : Int) - 1).toNat = i - 1 := by omega
    refine Go_first (v := mkE ys[i - 1]) rfl rfl rfl rfl (fun w _ hw => rxLoadRow tabOk rfl encE_is rfl (fun h => by first | rfl | cases h) hw (List.getElem?_eq_getElem hlt1) (by simp only [addA, x1]) rfl) ?_
    refine VC_sound tabOk 100 ?_
    refine Go_first (v := mkE ys[i]) rfl rfl rfl rfl (fun w _ hw => rxLoadRow tabOk rfl encE_is rfl (fun h => by first | rfl | cases h) hw (List.getElem?_eq_getElem hlt) (by simp only [addA]; rfl) rfl) ?_
    generalize ys[i - 1] = a at hrise hRO ⊢
    generalize ys[i] = b' at hrise hRO ⊢
    refine VC_sound tabOk 100 ?_
    refine Go_join (E := ?jE) (k := ?jk) (σ := Nat × Nat) (fun s => [(0, .v (.slice (some ⟨bl, ol, none⟩) l.length c)), (3, .v (.pointer (some ⟨bs, 0, none⟩))), (5, .v (.slice (some ⟨b, o, none⟩) ys.length c1)), (6, .v (.int .i64 i)), (7, .v (.pointer (some ⟨s.1, 0, none⟩))), (8, .v (.pointer (some ⟨s.2, 0, none⟩)))])
      (fun s => .blk s.1 29 (encE a) :: .blk s.2 29 (encE b') :: own encE 8 29 (some ⟨b, o, none⟩) c1 ys :: spT bs T 0) (fun _ => True) ?jm ?jr
    case jm =>
      intro J
      refine Go_forkV 9 10 [(10, true), (11, true), (12, true)] [(9, true), (11, true), (12, true)] (by kernel_rfl) rfl rfl (by kernel_rfl) (by kernel_rfl) rfl rfl rfl rfl (fun R w hm _ => ⟨trivial, by exact Mod.own_rd (k := 8) (T := 29) (c := c1) (i := 1) hm rfl⟩) tabOk ?_ ?_
      · intro b7 _
        refine ⟨⟨_, rfl⟩, ?_⟩
        refine VC_sound tabOk 100 ?_
        intro b8 _
        show Go _ _ _ _
        refine Go_aloneL rfl rfl (OpTo_do tabOk ?_)
        (repeat (first | refine Or.inl ⟨rfl, rfl, ?_⟩ | refine Or.inl ⟨rfl, ?_⟩ | refine Or.inr ?_))
        refine And.intro (fun w hm _ => ⟨trivial, by exact Mod.own_rd (k := 8) (T := 29) (c := c1) (i := 2) hm rfl⟩) ?_
        refine VC_sound tabOk 100 ?_
        (repeat (first | refine Or.inl ⟨rfl, rfl, ?_⟩ | refine Or.inl ⟨rfl, ?_⟩ | refine Or.inr ?_))
        refine J (b7, b8) trivial _ _ ?_ ?_
        · exact ⟨rfl, rfl, rfl, rfl, rfl, rfl, trivial⟩
        · exact fun _ h => h.sel [1, 0, 2, 3, 4, 5, 6] rfl
      · intro b8 _
        refine ⟨⟨_, rfl⟩, ?_⟩
        refine VC_sound tabOk 100 ?_
        intro b7 _
        show Go _ _ _ _
        refine Go_aloneL rfl rfl (OpTo_do tabOk ?_)
        (repeat (first | refine Or.inl ⟨rfl, rfl, ?_⟩ | refine Or.inl ⟨rfl, ?_⟩ | refine Or.inr ?_))
        refine And.intro (fun w hm _ => ⟨trivial, by exact Mod.own_rd (k := 8) (T := 29) (c := c1) (i := 2) hm rfl⟩) ?_
        refine VC_sound tabOk 100 ?_
        (repeat (first | refine Or.inl ⟨rfl, rfl, ?_⟩ | refine Or.inl ⟨rfl, ?_⟩ | refine Or.inr ?_))
        refine J (b7, b8) trivial _ _ ?_ ?_
        · exact ⟨rfl, rfl, rfl, rfl, rfl, rfl, trivial⟩
        · exact fun _ h => h.sel [0, 1, 2, 3, 4, 5, 6] rfl
    case jr =>
      rintro ⟨b7, b8⟩ _
      dsimp only
      show Go _ _ _ _
      refine Go_any mixed [] [(0, false), (2, false), (1, false), (3, false), (4, false), (5, false), (6, false), (8, false), (7, false), (9, false), (10, false), (11, false), (12, false), (13, false), (19, false), (20, false), (14, false), (15, false), (16, false), (17, false), (18, false), (21, false), (22, false), (23, false), (24, false), (25, false), (26, false), (27, false), (28, false), (29, false), (30, false), (32, false), (31, false), (33, false), (34, false), (35, false), (36, false), (37, false), (43, false), (44, false), (38, false), (39, false), (40, false), (41, false), (42, false), (45, false), (46, false), (47, false), (48, false), (49, false), (50, false), (51, false), (52, false), (53, false), (55, false), (54, false), (56, false), (57, false), (58, false), (59, false)] rfl (by kernel_rfl) (by kernel_rfl) [.blk b7 29 (encE a), .blk b8 29 (encE b')] (fun w => RdW w (some ⟨bl, ol, none⟩) (l.flatMap encA)) (fun w w' hk h => h.old hk) (fun w hm _ => ⟨Holds.of_idx [0, 1] hm, hr.mod hm⟩) ?_
      refine VC_sound tabOk 100 ?_
      (repeat (first | refine Or.inl ⟨rfl, rfl, ?_⟩ | refine Or.inl ⟨rfl, ?_⟩ | refine Or.inr ?_))
      refine ⟨fun h => by first | (simp at h; done) | (simp at h; omega) | (simp_all; done), fun _ => ?_⟩
      (repeat (first | refine Or.inl ⟨rfl, rfl, ?_⟩ | refine Or.inl ⟨rfl, ?_⟩ | refine Or.inr ?_))
      refine ⟨fun he => ?_, fun he => ?_⟩
      · have he' : a.id = b'.id := by simpa using he
        obtain ⟨⟨q1, q2, q3, q4⟩, q5⟩ := hRO he'
        obtain ⟨ea, ha⟩ : ∃ e, l[a.table.toNat]? = some e := ⟨_, List.getElem?_eq_getElem (by omega)⟩
        obtain ⟨eb, hb⟩ : ∃ e, l[b'.table.toNat]? = some e := ⟨_, List.getElem?_eq_getElem (by omega)⟩
        obtain ⟨Ka, hKa, hKa3⟩ := tmod_nat 3 (by decide) (bounds_u8 (hok ea (List.mem_of_getElem? ha)).1).1
        obtain ⟨Kb, hKb, hKb3⟩ := tmod_nat 3 (by decide) (bounds_u8 (hok eb (List.mem_of_getElem? hb)).1).1
        have q5' : Ka < Kb ∨ Ka = Kb ∧ a.table < b'.table := by
          simp only [acK, ha, hb, hKa, hKb] at q5
          omega
        (repeat (first | refine Or.inl ⟨rfl, rfl, ?_⟩ | refine Or.inl ⟨rfl, ?_⟩ | refine Or.inr ?_))
        refine ⟨⟨by omega, by omega⟩, ?_⟩
        (repeat (first | refine Or.inl ⟨rfl, rfl, ?_⟩ | refine Or.inl ⟨rfl, ?_⟩ | refine Or.inr ?_))
        refine Go_first (v := .int .u8 ea.d) rfl rfl rfl rfl (fun w _ hw => rxLoadPart tabOk rfl encA_is hw ha (off := 0) rfl (by simp only [addA])) ?_
        refine VC_sound tabOk 100 ?_
        refine ⟨by decide, _, hKa.symm, ?_⟩
        (repeat (first | refine Or.inl ⟨rfl, rfl, ?_⟩ | refine Or.inl ⟨rfl, ?_⟩ | refine Or.inr ?_))
        refine ⟨⟨by omega, by omega⟩, ?_⟩
        (repeat (first | refine Or.inl ⟨rfl, rfl, ?_⟩ | refine Or.inl ⟨rfl, ?_⟩ | refine Or.inr ?_))
        refine Go_first (v := .int .u8 eb.d) rfl rfl rfl rfl (fun w _ hw => rxLoadPart tabOk rfl encA_is hw hb (off := 0) rfl (by simp only [addA])) ?_
        refine VC_sound tabOk 100 ?_
        refine ⟨by decide, _, hKb.symm, ?_⟩
        refine ⟨fun h => by first | (simp at h; done) | (simp at h; omega) | (simp_all; done), fun _ => ?_⟩
        (repeat (first | refine Or.inl ⟨rfl, rfl, ?_⟩ | refine Or.inl ⟨rfl, ?_⟩ | refine Or.inr ?_))
        refine ⟨fun _ => ?_, fun h => by first | (simp at h; done) | (simp at h; omega) | (simp_all; done)⟩
        (repeat (first | refine Or.inl ⟨rfl, rfl, ?_⟩ | refine Or.inl ⟨rfl, ?_⟩ | refine Or.inr ?_))
        refine ⟨⟨by omega, by omega⟩, ?_⟩
        (repeat (first | refine Or.inl ⟨rfl, rfl, ?_⟩ | refine Or.inl ⟨rfl, ?_⟩ | refine Or.inr ?_))
        refine Go_first (v := .int .u8 ea.d) rfl rfl rfl rfl (fun w _ hw => rxLoadPart tabOk rfl encA_is hw ha (off := 0) rfl (by simp only [addA])) ?_
        refine VC_sound tabOk 100 ?_
        refine ⟨by decide, _, hKa.symm, ?_⟩
        (repeat (first | refine Or.inl ⟨rfl, rfl, ?_⟩ | refine Or.inl ⟨rfl, ?_⟩ | refine Or.inr ?_))
        refine ⟨⟨by omega, by omega⟩, ?_⟩
        (repeat (first | refine Or.inl ⟨rfl, rfl, ?_⟩ | refine Or.inl ⟨rfl, ?_⟩ | refine Or.inr ?_))
        refine Go_first (v := .int .u8 eb.d) rfl rfl rfl rfl (fun w _ hw => rxLoadPart tabOk rfl encA_is hw hb (off := 0) rfl (by simp only [addA])) ?_
        refine VC_sound tabOk 100 ?_
        refine ⟨by decide, _, hKb.symm, ?_⟩
        refine ⟨fun hk => ?_, fun hk => ?_⟩
        · have hk' : Ka = Kb := by simp at hk; omega
          (repeat (first | refine Or.inl ⟨rfl, rfl, ?_⟩ | refine Or.inl ⟨rfl, ?_⟩ | refine Or.inr ?_))
          refine ⟨fun h => by first | (simp at h; done) | (simp at h; omega) | (simp_all; done), fun _ => ?_⟩
          refine ⟨_, wrap_i64 (n := (i : Int) + 1) (by omega) (by omega), ?_⟩
          exact Go_fin (i + 1) ⟨by omega, by omega⟩ (by omega) ⟨rfl, rfl, rfl, rfl, trivial⟩ (fun _ h => h.sel [2, 3, 4, 5, 6] rfl)
        · refine ⟨_, wrap_i64 (n := (i : Int) + 1) (by omega) (by omega), ?_⟩
          exact Go_fin (i + 1) ⟨by omega, by omega⟩ (by omega) ⟨rfl, rfl, rfl, rfl, trivial⟩ (fun _ h => h.sel [2, 3, 4, 5, 6] rfl)
      · have he' : a.id ≠ b'.id := by simpa using he
        (repeat (first | refine Or.inl ⟨rfl, rfl, ?_⟩ | refine Or.inl ⟨rfl, ?_⟩ | refine Or.inr ?_))
        refine ⟨fun h => by first | (simp at h; done) | (simp at h; omega) | (simp_all; done), fun _ => ?_⟩
        refine ⟨_, wrap_i64 (n := (i : Int) + 1) (by omega) (by omega), ?_⟩
        exact Go_fin (i + 1) ⟨by omega, by omega⟩ (by omega) ⟨rfl, rfl, rfl, rfl, trivial⟩ (fun _ h => h.sel [2, 3, 4, 5, 6] rfl)
  refine VC_sound tabOk 100 ?_
  refine ⟨fun h => by first | (simp at h; done) | (simp at h; omega) | (simp_all; done), fun _ => ?_⟩
  refine ⟨fun _ => ?_, fun h => by first | (simp at h; done) | (simp at h; omega) | (simp_all; done)⟩
  have hsum : T.1.xs.length + T.2.1.xs.length + T.2.2.xs.length = len3 T := rfl
  refine Go_ops rfl (OpTo_pcall (v := .int .i64 ((T.1.xs.length + T.2.1.xs.length + T.2.2.xs.length : Nat) : Int)) rfl rfl rfl rfl rfl (by kernel_rfl) (fun w hm _ => spool_len bs T.1 T.2.1 T.2.2 0 w (hm.blk_at (i := 1) rfl) (by omega) (by omega) (by omega)) ?_)
  refine VC_sound tabOk 100 ?_
  exact congrArg Value.bool (by simp; omega)
end Go.Proofs.Ytdkalgnjfbbokaa
