/- The law BatchParts: what its run comes to. -/
import Derived.Test.YtphfeldcmkbinaaL12e
set_option autoImplicit false
set_option linter.unusedVariables false
set_option linter.unusedSimpArgs false
namespace Go.Proofs.Ytphfeldcmkbinaa
open Go.RX Go Go.RowKit Go.ChangeShapes Go.WideShapes Go.ChangeAt


/-! ### plain -/
def evTo (op : List Int) : Nat → List Int
  | 0 => []
  | j + 1 => evTo op j ++ (match op[2 * j]? with | some z => [z] | none => [])
theorem evTo_mem {op : List Int} : ∀ {j : Nat} {z : Int}, z ∈ evTo op j → z ∈ op
  | 0, z, h => by simp [evTo] at h
  | j + 1, z, h => by
    simp only [evTo, List.mem_append] at h
    rcases h with h | h
    · exact evTo_mem h
    · cases hz : op[2 * j]? with
      | none => rw [hz] at h; simp at h
      | some y => rw [hz] at h; simp at h; subst h; exact List.mem_of_getElem? hz
theorem evTo_len (op : List Int) : ∀ j, (evTo op j).length ≤ j
  | 0 => by simp [evTo]
  | j + 1 => by
    have := evTo_len op j
    simp only [evTo, List.length_append]
    split <;> simp <;> omega

theorem evsTo_tab (l : List BActM) : ∀ i, i ≤ l.length → (evsTo l i).map EventM.table = (List.range i).map (fun n : Nat => (n : Int))
  | 0, _ => rfl
  | i + 1, h => by
    have hlt : i < l.length := h
    simp only [evsTo, List.map_append, evsTo_tab l i (by omega), List.getElem?_eq_getElem hlt, List.range_succ]
    rfl
theorem evsB_nodup (l : List BActM) : (evsB l).Nodup := by
  have h : ((evsB l).map EventM.table).Nodup := by
    rw [evsTo_tab l l.length (Nat.le_refl _)]
    refine List.Pairwise.map (R := fun a b : Nat => a ≠ b) _ (fun a b hab h => hab ?_) List.nodup_range
    exact Int.ofNat.inj h
  exact List.Pairwise.of_map EventM.table (fun a b h e => h (by rw [e])) h

abbrev cntE (e : EventM) (xs : List EventM) : Nat := xs.countP fun y => evEq y e
theorem cntE_none {e : EventM} {xs : List EventM} (h : e ∉ xs) : cntE e xs = 0 := by
  rw [List.countP_eq_zero]
  intro y hy he
  exact h (evEq_iff.1 he ▸ hy)
theorem cntE_filter {L : List EventM} (P : EventM → Bool) (e : EventM) : L.Nodup → e ∈ L → cntE e (L.filter P) = if P e = true then 1 else 0 := by
  induction L with
  | nil => intro _ h; simp at h
  | cons y r ih =>
    intro hn he
    obtain ⟨h1, h2⟩ := List.nodup_cons.1 hn
    by_cases hy : e = y
    · subst hy
      have h0 : List.countP (fun y => evEq y e) (r.filter P) = 0 := cntE_none fun h => h1 (List.mem_filter.1 h).1
      rw [List.filter_cons]
      split
      · rw [cntE, List.countP_cons, h0, evEq_self]; simp
      · exact h0
    · have hr : e ∈ r := by rcases List.mem_cons.1 he with h | h; exact absurd h hy; exact h
      have h3 : evEq y e = false := by
        cases hh : evEq y e with
        | false => rfl
        | true => exact absurd (evEq_iff.1 hh).symm hy
      rw [List.filter_cons]
      split
      · rw [cntE, List.countP_cons, h3]; simpa using ih h2 hr
      · exact ih h2 hr
theorem cntE_same {xs ys : List EventM} (h : SameBy EventM.id xs ys) (e : EventM) : cntE e ys = cntE e xs := by
  have key : ∀ zs : List EventM, cntE e zs = cntE e (zs.filter fun x => decide (x.id = e.id)) := fun zs => by
    rw [cntE, cntE, List.countP_filter]
    congr 1; funext y
    cases hh : evEq y e with
    | false => rfl
    | true => have := evEq_iff.1 hh; subst this; simp
  rw [key ys, key xs, h e.id]
theorem cntE_take {xs : List EventM} {k : Nat} {y : EventM} (h : xs[k]? = some y) (e : EventM) : cntE e (xs.take (k + 1)) = cntE e (xs.take k) + if evEq y e = true then 1 else 0 := by
  simp only [cntE, List.take_add_one, h, List.countP_append, Option.toList_some, List.countP_cons, List.countP_nil, Nat.zero_add]
theorem cntE_le (e : EventM) (xs : List EventM) : cntE e xs ≤ xs.length := List.countP_le_length

theorem len_parts {Pa Po Pt : EventM → Bool} (h : ∀ e, Pa e = (Po e || Pt e)) (h2 : ∀ e, ¬ (Po e = true ∧ Pt e = true)) : ∀ L : List EventM, (L.filter Pa).length = (L.filter Po).length + (L.filter Pt).length
  | [] => rfl
  | e :: r => by
    have ih := len_parts h h2 r
    have h3 := h e
    have h4 := h2 e
    simp only [List.filter_cons]
    cases ho : Po e <;> cases ht : Pt e <;> simp_all <;> omega

/-- Three snapshots that rise. -/
theorem parts_bof {st : Int → Int} {x y z : SnM} {o : ByteArray} (hxy : ∀ t, x.sees t = true → y.sees t = true) (hyz : ∀ t, y.sees t = true → z.sees t = true) (e : EventM) :
    bofP st x z o e = (bofP st x y o e || bofP st y z o e) ∧ ¬ (bofP st x y o e = true ∧ bofP st y z o e = true) := by
  have h1 := hxy e.tx
  have h2 := hyz e.tx
  simp only [bofP]
  cases decide (st e.tx = 2) <;> cases dueB e o <;> cases hx : x.sees e.tx <;> cases hy : y.sees e.tx <;> cases hz : z.sees e.tx <;> simp_all

/-! ### the run -/
set_option maxHeartbeats 16000000 in
theorem l12_BatchParts (A : Option Addr) (c : Nat) (l : List BActM) (As : Option Addr) (cs : Nat) (xs : List Int) (a b' c' : Int) (Ao : Option Addr) (co : Nat) (os : List Int) (w0 : World) (hr : RdW w0 A (l.flatMap encA)) (hok : ∀ z ∈ l, okA w0 z) (hs : RdW w0 As (xs.flatMap encU)) (hx : ∀ z ∈ xs, 0 ≤ z ∧ z ≤ 255) (ha : 0 ≤ a ∧ a ≤ 255) (hb : 0 ≤ b' ∧ b' ≤ 255) (hcc : 0 ≤ c' ∧ c' ≤ 255)
    (ho : RdW w0 Ao (os.flatMap encU)) (hos : ∀ z ∈ os, 0 ≤ z ∧ z ≤ 255) :
    Calls Try.prog 4 #[.slice A l.length c, .slice As xs.length cs, .int .u8 a, .int .u8 b', .int .u8 c', .slice Ao os.length co] w0 fun e w' => e = .returned (.bool true) ∧ BelowD w0.heap.size w0 w' := by
  obtain ⟨K, hK, hK40⟩ := tmod_nat 40 (by decide) ha.1
  obtain ⟨B, hB, hB9⟩ := tmod_nat 10 (by decide) hb.1
  obtain ⟨C, hC, hC9⟩ := tmod_nat 10 (by decide) hcc.1
  refine enterP (tab := tab) Try.func4 rfl Try.ntmps4 rfl (args := [_, _, _, _, _, _]) rfl ?_
  refine VC_sound tabOk 100 ?_
  refine Go_ops rfl (OpTo_pcall (v := .bool true) rfl rfl rfl rfl rfl (by kernel_rfl) (fun w hm _ => l12_seen w) ?_)
  refine VC_sound tabOk 100 ?_
  refine ⟨fun h => by first | (simp at h; done) | (simp at h; omega) | (simp_all; done), fun _ => ?_⟩
  refine ⟨fun hc => ?_, fun hc => ?_⟩
  · refine Go_ops rfl (OpTo_pcall (v := .bool true) rfl rfl rfl rfl rfl (by kernel_rfl) (fun w hm _ => l12_seen w) ?_)
    refine VC_sound tabOk 100 ?_
    rfl
  refine ⟨fun hc2 => ?_, fun hc2 => ?_⟩
  · refine Go_ops rfl (OpTo_pcall (v := .bool true) rfl rfl rfl rfl rfl (by kernel_rfl) (fun w hm _ => l12_seen w) ?_)
    refine VC_sound tabOk 100 ?_
    rfl
  refine ⟨fun hc3 => ?_, fun hc3 => ?_⟩
  · refine Go_ops rfl (OpTo_pcall (v := .bool true) rfl rfl rfl rfl rfl (by kernel_rfl) (fun w hm _ => l12_seen w) ?_)
    refine VC_sound tabOk 100 ?_
    rfl
  have hl60 : l.length ≤ 60 := by simp at hc; omega
  have hx30 : xs.length ≤ 30 := by simp at hc2; omega
  have ho10 : os.length ≤ 10 := by simp at hc3; omega
  have hel : (evsB l).length = l.length := evsTo_len l l.length (Nat.le_refl _)
  show Go _ _ _ _
  refine Go_ops rfl (OpTo_ncall rfl rfl rfl rfl rfl (by kernel_rfl) (fun w hm _ => l12_managers As cs xs w (hs.mod hm) hx (by omega)) ?_)
  rintro _ _ ⟨m, b1, b2, br, Ar, cr, R, rfl, hR, hRl, rfl⟩
  refine VC_sound tabOk 100 ?_
  show Go _ _ _ _
  refine Go_ops rfl (OpTo_ncall rfl rfl rfl rfl rfl (by kernel_rfl) (fun w hm _ => r05_of a Ao co os w (ho.mod hm) (by omega) K ha hK hos) ?_)
  rintro _ _ ⟨Ax, cx, rfl, rfl⟩
  have hul := ofUpto_len os K
  generalize ofUpto os K = op at hul ⊢
  refine VC_sound tabOk 100 ?_
  intro b15 _
  (repeat (first | refine Or.inl ⟨rfl, rfl, ?_⟩ | refine Or.inl ⟨rfl, ?_⟩ | refine Or.inr ?_))
  refine ⟨by decide, _, hB.symm, ?_⟩
  refine ⟨_, wrap_i64 (n := (B : Int)) (by omega) (by omega), ?_⟩
  refine ⟨_, wrap_i64 (n := 1 + (K : Int) + B) (by omega) (by omega), ?_⟩
  intro b16 _
  (repeat (first | refine Or.inl ⟨rfl, rfl, ?_⟩ | refine Or.inl ⟨rfl, ?_⟩ | refine Or.inr ?_))
  refine Go_loop (σ := Nat × Option Addr × Nat) (fun s => [(0, .v (.slice A l.length c)), (4, .v (.int .u8 c')), (13, .v (.pointer (some ⟨m, 0, none⟩))), (15, .v (.pointer (some ⟨b15, 0, none⟩))), (16, .v (.pointer (some ⟨b16, 0, none⟩))), (17, .v (.int .i64 (2 * (s.1 : Int))))])
    (fun s => .blk b16 31 [.int .i64 (1 + (K : Int) + B), .slice s.2.1 (evTo op s.1).length s.2.2] :: own (encI .i64) 1 2 s.2.1 s.2.2 (evTo op s.1) :: .blk b15 31 [.int .i64 (1 + (K : Int)), .slice Ax op.length cx] :: own (encI .i64) 1 2 Ax cx op :: mgrR m b1 b2 br Ar cr R)
    (fun s => 2 * s.1 ≤ op.length + 1) (fun s => op.length + 1 - 2 * s.1) (0, none, 0) (by simp) ⟨rfl, rfl, rfl, rfl, rfl, rfl, trivial⟩ (fun _ h => (h.own_nil none).sel [1, 0, 2, 3, 4, 5, 6, 7, 8] rfl) ?_
  rintro ⟨j, Ay, cy⟩ hj
  dsimp only at hj ⊢
  have hyl := evTo_len op j
  by_cases hlt : 2 * j < op.length
  · refine Go_with _ (fun w hm _ => hm.own_some (i := 3) rfl (ne_nil_of_lt hlt)) ?_
    rintro ⟨bx, ox, rfl⟩
    obtain ⟨z, hgz⟩ : ∃ z, op[2 * j]? = some z := ⟨_, List.getElem?_eq_getElem hlt⟩
    have hidx : (2 * (j : Int)).toNat = 2 * j := by omega
    have hstep : evTo op (j + 1) = evTo op j ++ [z] := by simp only [evTo, hgz]
    refine VC_sound tabOk 100 ?_
    (repeat (first | refine Or.inl ⟨rfl, rfl, ?_⟩ | refine Or.inl ⟨rfl, ?_⟩ | refine Or.inr ?_))
    refine ⟨fun _ => ?_, fun h => by first | (simp at h; done) | (simp at h; omega) | (simp_all; done)⟩
    show Go _ _ _ _
    refine Go_any mixed [8, 10] [(0, false), (2, false), (4, false), (1, false), (3, false), (5, false), (6, false), (7, true), (8, true), (9, false), (10, true)] rfl (by kernel_rfl) (by kernel_rfl) [.blk b16 31 [.int .i64 (1 + (K : Int) + B), .slice Ay (evTo op j).length cy], .blk b15 31 [.int .i64 (1 + (K : Int)), .slice (some ⟨bx, ox, none⟩) op.length cx]] (fun w => RdW w (some ⟨bx, ox, none⟩) (op.flatMap (encI .i64))) (fun w w' hk h => h.old hk) (fun w hm _ => ⟨Holds.of_idx [0, 2] hm, by exact Mod.own_rd (k := 1) (T := 2) (c := cx) (i := 3) hm rfl⟩) ?_
    refine VC_sound tabOk 100 ?_
    (repeat (first | refine Or.inl ⟨rfl, rfl, ?_⟩ | refine Or.inl ⟨rfl, ?_⟩ | refine Or.inr ?_))
    refine ⟨⟨by omega, by omega⟩, ?_⟩
    (repeat (first | refine Or.inl ⟨rfl, rfl, ?_⟩ | refine Or.inl ⟨rfl, ?_⟩ | refine Or.inr ?_))
    refine Go_first (v := .int .i64 z) rfl rfl rfl rfl (fun w _ hw => rxLoadRow tabOk rfl (encI_is .i64) rfl (fun h => rfl) hw hgz (by simp only [addA, hidx]) rfl) ?_
    refine VC_sound tabOk 100 ?_
    intro b75 _
    refine Go_aloneM rfl rfl rfl (OpTo_append tabOk (encI_is .i64) (ys := [z]) (i := 2) rfl rfl rfl rfl rfl rfl rfl rfl rfl rfl rfl (fun w hm _ => hm.blk_rd (i := 0) rfl) (by simp; omega) (by simp; omega) (fun A2 c2 => ?_))
    refine VC_sound tabOk 100 ?_
    (repeat (first | refine Or.inl ⟨rfl, rfl, ?_⟩ | refine Or.inl ⟨rfl, ?_⟩ | refine Or.inr ?_))
    refine ⟨_, wrap_i64 (n := 2 * (j : Int) + 2) (by omega) (by omega), ?_⟩
    refine Go_fin (j + 1, A2, c2) (by dsimp only; omega) (by dsimp only; omega) ⟨rfl, rfl, rfl, rfl, rfl, congrArg (Value.int .i64) (by simp; omega), trivial⟩ (fun _ h => by dsimp only; rw [hstep, List.length_append]; exact h.sel [1, 2, 3, 4, 5, 6, 7, 8, 9] rfl)
  refine VC_sound tabOk 100 ?_
  (repeat (first | refine Or.inl ⟨rfl, rfl, ?_⟩ | refine Or.inl ⟨rfl, ?_⟩ | refine Or.inr ?_))
  refine ⟨fun h => by first | (simp at h; done) | (simp at h; omega) | (simp_all; done), fun _ => ?_⟩
  (repeat (first | refine Or.inl ⟨rfl, rfl, ?_⟩ | refine Or.inl ⟨rfl, ?_⟩ | refine Or.inr ?_))
  refine ⟨by decide, _, hC.symm, ?_⟩
  refine ⟨_, wrap_i64 (n := (C : Int)) (by omega) (by omega), ?_⟩
  refine ⟨_, wrap_i64 (n := 1 + (K : Int) + B + C) (by omega) (by omega), ?_⟩
  intro b18 _
  (repeat (first | refine Or.inl ⟨rfl, rfl, ?_⟩ | refine Or.inl ⟨rfl, ?_⟩ | refine Or.inr ?_))
  show Go _ _ _ _
  refine Go_ops rfl (OpTo_ncall rfl rfl rfl rfl rfl (by kernel_rfl) (fun w hm _ => l12_events A c l w (hr.mod hm) hok (by omega)) ?_)
  rintro _ _ ⟨A1, c1, rfl, rfl⟩
  have hmem : ∀ t, t ∈ evTo op j → t ∈ op := fun t => evTo_mem
  generalize evTo op j = oq at hyl hmem ⊢
  refine VC_sound tabOk 100 ?_
  (repeat (first | refine Or.inl ⟨rfl, rfl, ?_⟩ | refine Or.inl ⟨rfl, ?_⟩ | refine Or.inr ?_))
  show Go _ _ _ _
  refine Go_ops rfl (OpTo_ncall rfl rfl rfl rfl rfl (by kernel_rfl) (fun w hm _ => batch_of A1 c1 (evsB l) (.pointer (some ⟨m, 0, none⟩)) (stE (txOf R)) ⟨1 + (K : Int), Ax, cx, op⟩ ⟨1 + (K : Int) + B + C, none, 0, []⟩ sA w (hm.own_rd (i := 0) rfl) (by omega) (StOk.some (s := txOf R) (hm.blk_at (i := 6) rfl) (MpAt.of_mod (i := 7) hm rfl) (MpAt.of_mod (i := 8) hm rfl)) ⟨hm.own_rd (i := 5) rfl, by dsimp only; omega⟩ ⟨.inl rfl, by simp⟩) ?_)
  rintro _ _ ⟨al, hal, A2, c2, rfl, rfl⟩
  refine VC_sound tabOk 100 ?_
  (repeat (first | refine Or.inl ⟨rfl, rfl, ?_⟩ | refine Or.inl ⟨rfl, ?_⟩ | refine Or.inr ?_))
  show Go _ _ _ _
  refine Go_ops rfl (OpTo_ncall rfl rfl rfl rfl rfl (by kernel_rfl) (fun w hm _ => batch_of A1 c1 (evsB l) (.pointer (some ⟨m, 0, none⟩)) (stE (txOf R)) ⟨1 + (K : Int), Ax, cx, op⟩ ⟨1 + (K : Int) + B, Ay, cy, oq⟩ sA w (hm.own_rd (i := 1) rfl) (by omega) (StOk.some (s := txOf R) (hm.blk_at (i := 7) rfl) (MpAt.of_mod (i := 8) hm rfl) (MpAt.of_mod (i := 9) hm rfl)) ⟨hm.own_rd (i := 6) rfl, by dsimp only; omega⟩ ⟨hm.own_rd (i := 4) rfl, by dsimp only; omega⟩) ?_)
  rintro _ _ ⟨on, hon, A3, c3, rfl, rfl⟩
  refine VC_sound tabOk 100 ?_
  (repeat (first | refine Or.inl ⟨rfl, rfl, ?_⟩ | refine Or.inl ⟨rfl, ?_⟩ | refine Or.inr ?_))
  show Go _ _ _ _
  refine Go_ops rfl (OpTo_ncall rfl rfl rfl rfl rfl (by kernel_rfl) (fun w hm _ => batch_of A1 c1 (evsB l) (.pointer (some ⟨m, 0, none⟩)) (stE (txOf R)) ⟨1 + (K : Int) + B, Ay, cy, oq⟩ ⟨1 + (K : Int) + B + C, none, 0, []⟩ sA w (hm.own_rd (i := 2) rfl) (by omega) (StOk.some (s := txOf R) (hm.blk_at (i := 8) rfl) (MpAt.of_mod (i := 9) hm rfl) (MpAt.of_mod (i := 10) hm rfl)) ⟨hm.own_rd (i := 5) rfl, by dsimp only; omega⟩ ⟨.inl rfl, by simp⟩) ?_)
  rintro _ _ ⟨tw, htw, A4, c4, rfl, rfl⟩
  -- the plain facts
  have hxy : ∀ t, SnM.sees ⟨1 + (K : Int), Ax, cx, op⟩ t = true → SnM.sees ⟨1 + (K : Int) + B, Ay, cy, oq⟩ t = true := fun t h => by
    simp only [SnM.sees, snSees, Bool.and_eq_true, decide_eq_true_eq, Bool.not_eq_true', List.contains_eq_mem, decide_eq_false_iff_not] at h ⊢
    exact ⟨h.1, by omega, fun hh => h.2.2 (hmem t hh)⟩
  have hyz : ∀ t, SnM.sees ⟨1 + (K : Int) + B, Ay, cy, oq⟩ t = true → SnM.sees ⟨1 + (K : Int) + B + C, none, 0, []⟩ t = true := fun t h => by
    simp only [SnM.sees, snSees, Bool.and_eq_true, decide_eq_true_eq] at h ⊢
    exact ⟨h.1, by omega, rfl⟩
  have hparts := parts_bof (st := stE (txOf R)) (o := sA) hxy hyz
  have hlen : al.length = on.length + tw.length := by
    rw [hal.2.2, hon.2.2, htw.2.2]
    exact len_parts (fun e => (hparts e).1) (fun e => (hparts e).2) _
  have hone : ∀ e ∈ al, cntE e on + cntE e tw = 1 := fun e he => by
    have h1 := (hal.1.mem e).2 he
    obtain ⟨h2, h3⟩ := List.mem_filter.1 h1
    rw [cntE_same hon.1, cntE_same htw.1, cntE_filter _ e (evsB_nodup l) h2, cntE_filter _ e (evsB_nodup l) h2]
    obtain ⟨p1, p2⟩ := hparts e
    rw [p1] at h3
    cases q1 : bofP (stE (txOf R)) ⟨1 + (K : Int), Ax, cx, op⟩ ⟨1 + (K : Int) + B, Ay, cy, oq⟩ sA e <;> cases q2 : bofP (stE (txOf R)) ⟨1 + (K : Int) + B, Ay, cy, oq⟩ ⟨1 + (K : Int) + B + C, none, 0, []⟩ sA e <;> simp_all
  have hal60 : al.length ≤ 60 := by rw [hal.2.2]; exact Nat.le_trans (List.length_filter_le _ _) (by omega)
  clear hal hon htw hparts hxy hyz hmem
  refine VC_sound tabOk 100 ?_
  refine Go_sel [0, 1, 2] rfl ?_
  refine Go_loop (σ := Nat) (fun i => [(20, .v (.slice A2 al.length c2)), (21, .v (.slice A3 on.length c3)), (22, .v (.slice A4 tw.length c4)), (23, .v (.int .i64 i)), (24, .v (.int .i64 i))]) (fun _ => [own encE 8 42 A4 c4 tw, own encE 8 42 A3 c3 on, own encE 8 42 A2 c2 al]) (fun i => i ≤ al.length) (fun i => al.length - i) 0 (Nat.zero_le _) ⟨rfl, rfl, rfl, rfl, rfl, trivial⟩ (fun _ h => h) ?_
  intro i hi
  dsimp only at hi ⊢
  by_cases hlt2 : i < al.length
  · obtain ⟨e, hge⟩ : ∃ e, al[i]? = some e := ⟨_, List.getElem?_eq_getElem hlt2⟩
    have hsum := hone e (List.mem_of_getElem? hge)
    refine Go_with _ (fun w hm _ => hm.own_some (i := 2) rfl (ne_nil_of_lt hlt2)) ?_
    rintro ⟨ba, oa, rfl⟩
    refine Go_with (on ≠ [] → ∃ b o, A3 = some ⟨b, o, none⟩) (fun w hm _ h => hm.own_some (i := 1) rfl h) ?_
    intro hA3
    refine Go_with (tw ≠ [] → ∃ b o, A4 = some ⟨b, o, none⟩) (fun w hm _ h => hm.own_some (i := 0) rfl h) ?_
    intro hA4
    refine VC_sound tabOk 100 ?_
    refine ⟨fun _ => ?_, fun h => by first | (simp at h; done) | (simp at h; omega) | (simp_all; done)⟩
    refine Go_loop (σ := Nat) (fun k => [(20, .v (.slice (some ⟨ba, oa, none⟩) al.length c2)), (21, .v (.slice A3 on.length c3)), (22, .v (.slice A4 tw.length c4)), (23, .v (.int .i64 i)), (24, .v (.int .i64 i)), (25, .v (.int .i64 (cntE e (on.take k) : Nat))), (26, .v (.int .i64 k))]) (fun _ => [own encE 8 42 A4 c4 tw, own encE 8 42 A3 c3 on, own encE 8 42 (some ⟨ba, oa, none⟩) c2 al]) (fun k => k ≤ on.length) (fun k => on.length - k) 0 (Nat.zero_le _) ⟨rfl, rfl, rfl, rfl, rfl, rfl, rfl, trivial⟩ (fun _ h => h) ?_
    intro k hk
    dsimp only at hk ⊢
    have hck := cntE_le e (on.take k)
    rw [List.length_take] at hck
    by_cases hlt3 : k < on.length
    · obtain ⟨bo, oo, rfl⟩ := hA3 (ne_nil_of_lt hlt3)
      obtain ⟨y, hgy⟩ : ∃ y, on[k]? = some y := ⟨_, List.getElem?_eq_getElem hlt3⟩
      have hstep := cntE_take hgy e
      refine VC_sound tabOk 100 ?_
      refine ⟨fun _ => ?_, fun h => by first | (simp at h; done) | (simp at h; omega) | (simp_all; done)⟩
      show Go _ _ _ _
      refine Go_any mixed [] [(0, false), (1, false), (2, false), (4, false), (5, false), (6, false), (3, false), (7, false), (8, false)] rfl (by kernel_rfl) (by kernel_rfl) [] (fun w => RdW w (some ⟨bo, oo, none⟩) (on.flatMap encE) ∧ RdW w (some ⟨ba, oa, none⟩) (al.flatMap encE)) (fun w w' hk h => ⟨h.1.old hk, h.2.old hk⟩) (fun w hm _ => ⟨trivial, by exact Mod.own_rd (k := 8) (T := 42) (c := c3) (i := 1) hm rfl, by exact Mod.own_rd (k := 8) (T := 42) (c := c2) (i := 2) hm rfl⟩) ?_
      refine VC_sound tabOk 100 ?_
      refine ⟨⟨by omega, by omega⟩, ?_⟩
      refine ⟨⟨by omega, by omega⟩, ?_⟩
      refine Go_first (v := mkE y) rfl rfl rfl rfl (fun w _ hw => rxLoadRow tabOk rfl encE_is rfl (fun h => by first | rfl | cases h) hw.1 hgy (by simp only [addA]; rfl) rfl) ?_
      refine VC_sound tabOk 100 ?_
      refine Go_first (v := mkE e) rfl rfl rfl rfl (fun w _ hw => rxLoadRow tabOk rfl encE_is rfl (fun h => by first | rfl | cases h) hw.2 hge (by simp only [addA]; rfl) rfl) ?_
      refine VC_sound tabOk 100 ?_
      refine Go_firstB (.bool (evEq y e)) rfl rfl rfl rfl rfl (fun w => ev_eql y e _ _ w) ?_
      refine VC_sound tabOk 100 ?_
      refine ⟨fun heq => ?_, fun heq => ?_⟩
      · rw [heq, if_pos rfl] at hstep
        refine ⟨_, wrap_i64 (n := (cntE e (on.take k) : Nat) + 1) (by omega) (by omega), ?_⟩
        refine ⟨_, wrap_i64 (n := (k : Int) + 1) (by omega) (by omega), ?_⟩
        exact Go_fin (k + 1) (by omega) (by omega) ⟨rfl, rfl, rfl, rfl, rfl, congrArg (Value.int .i64) (by rw [hstep]; rfl), rfl, trivial⟩ (fun _ h => h)
      · rw [heq, if_neg (by simp)] at hstep
        refine ⟨_, wrap_i64 (n := (k : Int) + 1) (by omega) (by omega), ?_⟩
        exact Go_fin (k + 1) (by omega) (by omega) ⟨rfl, rfl, rfl, rfl, rfl, congrArg (Value.int .i64) (by rw [hstep]; rfl), rfl, trivial⟩ (fun _ h => h)
    have hke : k = on.length := by omega
    subst hke
    rw [List.take_length] at hck ⊢
    refine VC_sound tabOk 100 ?_
    refine ⟨fun h => by first | (simp at h; done) | (simp at h; omega) | (simp_all; done), fun _ => ?_⟩
    refine Go_loop (σ := Nat) (fun k => [(20, .v (.slice (some ⟨ba, oa, none⟩) al.length c2)), (21, .v (.slice A3 on.length c3)), (22, .v (.slice A4 tw.length c4)), (23, .v (.int .i64 i)), (24, .v (.int .i64 i)), (25, .v (.int .i64 ((cntE e on + cntE e (tw.take k) : Nat) : Int))), (27, .v (.int .i64 k))]) (fun _ => [own encE 8 42 A4 c4 tw, own encE 8 42 A3 c3 on, own encE 8 42 (some ⟨ba, oa, none⟩) c2 al]) (fun k => k ≤ tw.length) (fun k => tw.length - k) 0 (Nat.zero_le _) ⟨rfl, rfl, rfl, rfl, rfl, rfl, rfl, trivial⟩ (fun _ h => h) ?_
    intro k hk
    dsimp only at hk ⊢
    have hck2 := cntE_le e (tw.take k)
    rw [List.length_take] at hck2
    by_cases hlt3 : k < tw.length
    · obtain ⟨bo, oo, rfl⟩ := hA4 (ne_nil_of_lt hlt3)
      obtain ⟨y, hgy⟩ : ∃ y, tw[k]? = some y := ⟨_, List.getElem?_eq_getElem hlt3⟩
      have hstep := cntE_take hgy e
      refine VC_sound tabOk 100 ?_
      refine ⟨fun _ => ?_, fun h => by first | (simp at h; done) | (simp at h; omega) | (simp_all; done)⟩
      show Go _ _ _ _
      refine Go_any mixed [] [(0, false), (1, false), (2, false), (4, false), (5, false), (6, false), (3, false), (7, false), (8, false)] rfl (by kernel_rfl) (by kernel_rfl) [] (fun w => RdW w (some ⟨bo, oo, none⟩) (tw.flatMap encE) ∧ RdW w (some ⟨ba, oa, none⟩) (al.flatMap encE)) (fun w w' hk h => ⟨h.1.old hk, h.2.old hk⟩) (fun w hm _ => ⟨trivial, by exact Mod.own_rd (k := 8) (T := 42) (c := c4) (i := 0) hm rfl, by exact Mod.own_rd (k := 8) (T := 42) (c := c2) (i := 2) hm rfl⟩) ?_
      refine VC_sound tabOk 100 ?_
      refine ⟨⟨by omega, by omega⟩, ?_⟩
      refine ⟨⟨by omega, by omega⟩, ?_⟩
      refine Go_first (v := mkE y) rfl rfl rfl rfl (fun w _ hw => rxLoadRow tabOk rfl encE_is rfl (fun h => by first | rfl | cases h) hw.1 hgy (by simp only [addA]; rfl) rfl) ?_
      refine VC_sound tabOk 100 ?_
      refine Go_first (v := mkE e) rfl rfl rfl rfl (fun w _ hw => rxLoadRow tabOk rfl encE_is rfl (fun h => by first | rfl | cases h) hw.2 hge (by simp only [addA]; rfl) rfl) ?_
      refine VC_sound tabOk 100 ?_
      refine Go_firstB (.bool (evEq y e)) rfl rfl rfl rfl rfl (fun w => ev_eql y e _ _ w) ?_
      refine VC_sound tabOk 100 ?_
      refine ⟨fun heq => ?_, fun heq => ?_⟩
      · rw [heq, if_pos rfl] at hstep
        refine ⟨_, wrap_i64 (n := ((cntE e on + cntE e (tw.take k) : Nat) : Int) + 1) (by omega) (by omega), ?_⟩
        refine ⟨_, wrap_i64 (n := (k : Int) + 1) (by omega) (by omega), ?_⟩
        exact Go_fin (k + 1) (by omega) (by omega) ⟨rfl, rfl, rfl, rfl, rfl, congrArg (Value.int .i64) (by rw [hstep]; rfl), rfl, trivial⟩ (fun _ h => h)
      · rw [heq, if_neg (by simp)] at hstep
        refine ⟨_, wrap_i64 (n := (k : Int) + 1) (by omega) (by omega), ?_⟩
        exact Go_fin (k + 1) (by omega) (by omega) ⟨rfl, rfl, rfl, rfl, rfl, congrArg (Value.int .i64) (by rw [hstep]; rfl), rfl, trivial⟩ (fun _ h => h)
    have hke : k = tw.length := by omega
    subst hke
    rw [List.take_length] at hck2 ⊢
    rw [hsum]
    refine VC_sound tabOk 100 ?_
    refine ⟨fun h => by first | (simp at h; done) | (simp at h; omega) | (simp_all; done), fun _ => ?_⟩
    refine ⟨fun h => by first | (simp at h; done) | (simp at h; omega) | (simp_all; done), fun _ => ?_⟩
    refine ⟨_, wrap_i64 (n := (i : Int) + 1) (by omega) (by omega), ?_⟩
    refine ⟨_, wrap_i64 (n := (i : Int) + 1) (by omega) (by omega), ?_⟩
    exact Go_fin (i + 1) (by omega) (by omega) ⟨rfl, rfl, rfl, rfl, rfl, trivial⟩ (fun _ h => h)
  refine VC_sound tabOk 100 ?_
  refine ⟨fun h => by first | (simp at h; done) | (simp at h; omega) | (simp_all; done), fun _ => ?_⟩
  refine ⟨_, wrap_i64 (n := (on.length : Int) + tw.length) (by omega) (by omega), ?_⟩
  exact congrArg Value.bool (by simp; omega)
end Go.Proofs.Ytphfeldcmkbinaa
