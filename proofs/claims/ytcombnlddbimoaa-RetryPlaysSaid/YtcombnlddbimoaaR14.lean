/- What the reference of layer 14 does. -/
import Derived.Test.YtcombnlddbimoaaL14b
set_option autoImplicit false
set_option linter.unusedVariables false
set_option linter.unusedSimpArgs false
namespace Go.Proofs.Ytcombnlddbimoaa
open Go.RX Go Go.RowKit


abbrev rfR (b : Nat) (A : Option Addr) (c : Nat) (xs : List ItemM) : List Res := [.blk b 49 [.slice A xs.length c], own encT 9 64 A c xs]

theorem sizeE (o : ByteArray) : (o.toList == ByteArray.toList ⟨#[]⟩) = decide (o.size = 0) := by
  rw [Bool.eq_iff_iff, beq_iff_eq, decide_eq_true_eq]
  constructor
  · intro h; rw [toList_inj h]; rfl
  · intro h
    have : o = ⟨#[]⟩ := ByteArray.ext (Array.eq_empty_of_size_eq_zero h)
    rw [this]

theorem r14_ahead (x y : ItemM) (w0 : World) : Calls Try.prog 31 #[mkT x, mkT y] w0 fun r w' => r = .returned (.bool (ltT (keyT x) (keyT y))) ∧ BelowD w0.heap.size w0 w' := by
  refine enterP (tab := tab) Try.func31 rfl Try.ntmps31 rfl (args := [_, _]) rfl ?_
  refine VC_sound tabOk 100 ?_
  intro b2 _
  intro b3 _
  (repeat (first | refine Or.inl ⟨rfl, rfl, ?_⟩ | refine Or.inl ⟨rfl, ?_⟩ | refine Or.inr ?_))
  rw [keyT_lt]
  refine ⟨fun h1 => ?_, fun h1 => ?_⟩
  · have h1' : ¬ x.at_ = y.at_ := by simpa using h1
    rw [if_neg h1']
    (repeat (first | refine Or.inl ⟨rfl, rfl, ?_⟩ | refine Or.inl ⟨rfl, ?_⟩ | refine Or.inr ?_))
    rfl
  have h1' : x.at_ = y.at_ := by simpa using h1
  rw [if_pos h1']
  (repeat (first | refine Or.inl ⟨rfl, rfl, ?_⟩ | refine Or.inl ⟨rfl, ?_⟩ | refine Or.inr ?_))
  refine ⟨fun h2 => ?_, fun h2 => ?_⟩
  · have h2' : ¬ x.ev.id = y.ev.id := by simpa using h2
    rw [if_neg h2']
    (repeat (first | refine Or.inl ⟨rfl, rfl, ?_⟩ | refine Or.inl ⟨rfl, ?_⟩ | refine Or.inr ?_))
    rfl
  have h2' : x.ev.id = y.ev.id := by simpa using h2
  rw [if_pos h2']
  (repeat (first | refine Or.inl ⟨rfl, rfl, ?_⟩ | refine Or.inl ⟨rfl, ?_⟩ | refine Or.inr ?_))
  rfl

theorem cap14 (t : Int) (h : t ≤ 2147483647) : triesUp t = if t < 2147483647 then t + 1 else t := by
  by_cases h1 : t < 2147483647
  · rw [triesUp_lt h1, if_pos h1]
  · have : t = 2147483647 := by omega
    subst this; rfl

set_option maxHeartbeats 16000000 in
theorem r14_add (b : Nat) (A : Option Addr) (c : Nat) (xs : List ItemM) (e : EventM) (o : ByteArray) (at_ : Int) (hl : xs.length ≤ 1000) (ht : 0 ≤ e.tries ∧ e.tries ≤ 2147483647) (hrise : RiseT xs) (w0 : World) (hfs : List PH) (hm : Mod hfs (rfR b A c xs) w0) :
    Calls Try.prog 17 #[.pointer (some ⟨b, 0, none⟩), mkE e, .string o, .int .i64 at_] w0 fun r w' => ∃ v Rs', r = .returned v ∧ (∃ A' c' ys, v = .int .i64 (addE xs e o) ∧ AddT xs e o at_ ys ∧ Rs' = rfR b A' c' ys) ∧ Mod hfs Rs' w' ∧ Oth w0 w' := by
  have hcap := hm.own_le (i := 1) rfl
  have hA : xs ≠ [] → ∃ b o, A = some ⟨b, o, none⟩ := fun h => hm.own_some (i := 1) rfl h
  refine enterN (tab := tab) Try.func17 rfl Try.ntmps17 rfl (args := [_, _, _, _]) rfl hm ?_
  refine VC_sound tabOk 100 ?_
  intro b5 _
  refine ⟨fun h1 => ?_, fun h1 => ?_⟩
  · have he : addE xs e o = 1 := by rw [addE, sizeE, if_pos (by simpa using h1)]
    exact ⟨_, ⟨A, c, xs, by rw [he]; rfl, .inr ⟨by omega, rfl⟩, rfl⟩, fun _ _ h => h.sel [1, 2] rfl⟩
  have h1' : ¬ (o.toList == (ByteArray.toList ⟨#[]⟩)) = true := by rw [sizeE]; simpa using h1
  refine Go_loop (σ := Nat) (fun i => [(0, .v (.pointer (some ⟨b, 0, none⟩))), (2, .v (.string o)), (3, .v (.int .i64 at_)), (5, .v (.pointer (some ⟨b5, 0, none⟩))), (9, .v (.int .i64 i))]) (fun _ => .blk b5 33 (encE e) :: rfR b A c xs) (fun i => i ≤ xs.length ∧ (xs.take i).any (hasP e o) = false) (fun i => xs.length - i) 0 ⟨Nat.zero_le _, rfl⟩ ⟨rfl, rfl, rfl, rfl, rfl, trivial⟩ (fun _ h => h) ?_
  rintro i ⟨hi, hno⟩
  dsimp only at hi hno ⊢
  by_cases hlt : i < xs.length
  · obtain ⟨x, hgx⟩ : ∃ x, xs[i]? = some x := ⟨_, List.getElem?_eq_getElem hlt⟩
    obtain ⟨ba, oa, rfl⟩ := hA (ne_nil_of_lt hlt)
    have hstep : (xs.take (i + 1)).any (hasP e o) = ((xs.take i).any (hasP e o) || hasP e o x) := by
      rw [List.take_add_one, hgx, List.any_append]; simp
    have next : hasP e o x = false → i + 1 ≤ xs.length ∧ (xs.take (i + 1)).any (hasP e o) = false := fun h => ⟨hlt, by rw [hstep, hno, h]; rfl⟩
    refine VC_sound tabOk 100 ?_
    (repeat (first | refine Or.inl ⟨rfl, rfl, ?_⟩ | refine Or.inl ⟨rfl, ?_⟩ | refine Or.inr ?_))
    refine ⟨fun _ => ?_, fun h => by first | (simp at h; done) | (simp at h; omega) | (simp_all; done)⟩
    show Go _ _ _ _
    refine Go_any mixed [] [(0, false), (1, false), (2, false), (4, false), (9, false), (3, false), (5, false), (6, false), (7, false), (8, false), (10, false), (11, false), (12, false), (13, false), (14, false), (15, false), (17, false), (22, false), (16, false), (18, false), (19, false), (20, false), (21, false), (23, false), (24, false)] rfl (by kernel_rfl) (by kernel_rfl) [.blk b5 33 (encE e), .blk b 49 [.slice (some ⟨ba, oa, none⟩) xs.length c]] (fun w => RdW w (some ⟨ba, oa, none⟩) (xs.flatMap encT)) (fun w w' hk h => h.old hk) (fun w hm _ => ⟨Holds.of_idx [0, 1] hm, by exact Mod.own_rd (k := 9) (T := 64) (c := c) (i := 2) hm rfl⟩) ?_
    refine VC_sound tabOk 100 ?_
    (repeat (first | refine Or.inl ⟨rfl, rfl, ?_⟩ | refine Or.inl ⟨rfl, ?_⟩ | refine Or.inr ?_))
    refine ⟨⟨by omega, by omega⟩, ?_⟩
    (repeat (first | refine Or.inl ⟨rfl, rfl, ?_⟩ | refine Or.inl ⟨rfl, ?_⟩ | refine Or.inr ?_))
    refine Go_first (v := .int .i64 x.ev.id) rfl rfl rfl rfl (fun w _ hw => rxLoadPart tabOk rfl encT_is hw hgx (off := 1) rfl (by simp only [addA]; rfl)) ?_
    refine VC_sound tabOk 100 ?_
    (repeat (first | refine Or.inl ⟨rfl, rfl, ?_⟩ | refine Or.inl ⟨rfl, ?_⟩ | refine Or.inr ?_))
    refine ⟨fun h2 => ?_, fun h2 => ?_⟩
    · (repeat (first | refine Or.inl ⟨rfl, rfl, ?_⟩ | refine Or.inl ⟨rfl, ?_⟩ | refine Or.inr ?_))
      refine ⟨⟨by omega, by omega⟩, ?_⟩
      (repeat (first | refine Or.inl ⟨rfl, rfl, ?_⟩ | refine Or.inl ⟨rfl, ?_⟩ | refine Or.inr ?_))
      refine Go_first (v := .string x.ev.owner) rfl rfl rfl rfl (fun w _ hw => rxLoadPart tabOk rfl encT_is hw hgx (off := 3) rfl (by simp only [addA]; rfl)) ?_
      refine VC_sound tabOk 100 ?_
      refine ⟨fun h3 => ?_, fun h3 => ?_⟩
      · have hh : xs.any (hasP e o) = true := List.any_eq_true.2 ⟨x, List.mem_of_getElem? hgx, by simp only [hasP, h2, Bool.true_and]; exact h3⟩
        have he : addE xs e o = 5 := by rw [addE, if_neg h1', if_pos hh]
        exact ⟨_, ⟨_, c, xs, by rw [he]; rfl, .inr ⟨by omega, rfl⟩, rfl⟩, fun _ _ h => h.sel [1, 2] rfl⟩
      · refine ⟨_, wrap_i64 (n := (i : Int) + 1) (by omega) (by omega), ?_⟩
        exact Go_fin (i + 1) (next (by simp only [hasP, h2, Bool.true_and]; exact h3)) (by omega) ⟨rfl, rfl, rfl, rfl, rfl, trivial⟩ (fun _ h => h)
    · refine ⟨_, wrap_i64 (n := (i : Int) + 1) (by omega) (by omega), ?_⟩
      exact Go_fin (i + 1) (next (by simp only [hasP, h2, Bool.false_and])) (by omega) ⟨rfl, rfl, rfl, rfl, rfl, trivial⟩ (fun _ h => h)
  have hie : i = xs.length := by omega
  subst hie
  rw [List.take_length] at hno
  have h2' : ¬ xs.any (hasP e o) = true := by rw [hno]; simp
  refine VC_sound tabOk 100 ?_
  (repeat (first | refine Or.inl ⟨rfl, rfl, ?_⟩ | refine Or.inl ⟨rfl, ?_⟩ | refine Or.inr ?_))
  refine ⟨fun h => by first | (simp at h; done) | (simp at h; omega) | (simp_all; done), fun _ => ?_⟩
  (repeat (first | refine Or.inl ⟨rfl, rfl, ?_⟩ | refine Or.inl ⟨rfl, ?_⟩ | refine Or.inr ?_))
  refine ⟨fun h3 => ?_, fun h3 => ?_⟩
  · have he : addE xs e o = 8 := by rw [addE, if_neg h1', if_neg h2', if_pos (by have := of_decide_eq_true h3; omega)]
    exact ⟨_, ⟨A, c, xs, by rw [he]; rfl, .inr ⟨by omega, rfl⟩, rfl⟩, fun _ _ h => h.sel [1, 2] rfl⟩
  have he : addE xs e o = 0 := by rw [addE, if_neg h1', if_neg h2', if_neg (by have := of_decide_eq_false h3; omega)]
  (repeat (first | refine Or.inl ⟨rfl, rfl, ?_⟩ | refine Or.inl ⟨rfl, ?_⟩ | refine Or.inr ?_))
  refine Go_join (E := ?jE) (k := ?jk) (σ := Nat) (fun b10 => [(0, .v (.pointer (some ⟨b, 0, none⟩))), (10, .v (.pointer (some ⟨b10, 0, none⟩))), (11, .v (.int .i64 xs.length))]) (fun b10 => .blk b10 64 (encT (newIt e o at_)) :: rfR b A c xs) (fun _ => True) ?jm ?jr
  case jm =>
    intro J
    refine ⟨fun h4 => ?_, fun h4 => ?_⟩
    · have h4' : e.tries < 2147483647 := of_decide_eq_true h4
      (repeat (first | refine Or.inl ⟨rfl, rfl, ?_⟩ | refine Or.inl ⟨rfl, ?_⟩ | refine Or.inr ?_))
      refine ⟨_, wrap_i64 (n := e.tries + 1) (by omega) (by omega), ?_⟩
      (repeat (first | refine Or.inl ⟨rfl, rfl, ?_⟩ | refine Or.inl ⟨rfl, ?_⟩ | refine Or.inr ?_))
      intro b10 _
      (repeat (first | refine Or.inl ⟨rfl, rfl, ?_⟩ | refine Or.inl ⟨rfl, ?_⟩ | refine Or.inr ?_))
      refine J b10 trivial _ _ ?_ ?_
      · exact ⟨rfl, rfl, rfl, trivial⟩
      · refine fun _ h => ?_
        simp only [newIt, cap14 e.tries ht.2, if_pos h4']
        exact h.sel [0, 2, 3] rfl
    · have h4' : ¬ e.tries < 2147483647 := of_decide_eq_false h4
      (repeat (first | refine Or.inl ⟨rfl, rfl, ?_⟩ | refine Or.inl ⟨rfl, ?_⟩ | refine Or.inr ?_))
      intro b10 _
      (repeat (first | refine Or.inl ⟨rfl, rfl, ?_⟩ | refine Or.inl ⟨rfl, ?_⟩ | refine Or.inr ?_))
      refine J b10 trivial _ _ ?_ ?_
      · exact ⟨rfl, rfl, rfl, trivial⟩
      · refine fun _ h => ?_
        simp only [newIt, cap14 e.tries ht.2, if_neg h4']
        exact h.sel [0, 2, 3] rfl
  case jr =>
    intro b10 _
    generalize hit : newIt e o at_ = it
    refine Go_join (E := ?jE2) (k := ?jk2) (σ := Nat) (fun n => [(0, .v (.pointer (some ⟨b, 0, none⟩))), (10, .v (.pointer (some ⟨b10, 0, none⟩))), (11, .v (.int .i64 n)), (89, .v (.slice none 0 0)), (95, .v (.slice A n c))]) (fun _ => .blk b10 64 (encT it) :: rfR b A c xs)
      (fun n => n ≤ xs.length ∧ (∀ y ∈ xs.drop n, ltT (keyT it) (keyT y) = true) ∧ ∀ y ∈ xs.take n, ltT (keyT it) (keyT y) = false) ?jm2 ?jr2
    case jm2 =>
      intro J
      refine Go_loop (σ := Nat) (fun n => [(0, .v (.pointer (some ⟨b, 0, none⟩))), (10, .v (.pointer (some ⟨b10, 0, none⟩))), (11, .v (.int .i64 n))]) (fun _ => .blk b10 64 (encT it) :: rfR b A c xs) (fun n => n ≤ xs.length ∧ ∀ y ∈ xs.drop n, ltT (keyT it) (keyT y) = true) (fun n => n) xs.length ⟨Nat.le_refl _, by simp⟩ ⟨rfl, rfl, rfl, trivial⟩ (fun _ h => h) ?_
      rintro n ⟨hn, hd⟩
      dsimp only at hn hd ⊢
      refine VC_sound tabOk 100 ?_
      show Go _ _ _ _
      refine Go_any mixed [12] [(0, false), (1, false), (2, false), (4, false), (5, false), (6, false), (8, false), (9, false), (3, false), (7, false), (10, false), (11, false), (12, true), (13, false)] rfl (by kernel_rfl) (by kernel_rfl) [.blk b10 64 (encT it), .blk b 49 [.slice A xs.length c]] (fun w => RdW w A (xs.flatMap encT)) (fun w w' hk h => h.old hk) (fun w hm _ => ⟨Holds.of_idx [0, 1] hm, by exact Mod.own_rd (k := 9) (T := 64) (c := c) (i := 2) hm rfl⟩) ?_
      refine VC_sound tabOk 100 ?_
      refine ⟨fun hj => ?_, fun hj => ?_⟩
      · have h0 : 0 < n := by have := of_decide_eq_true hj; omega
        obtain ⟨y, hgy⟩ : ∃ y, xs[n - 1]? = some y := ⟨_, List.getElem?_eq_getElem (by omega)⟩
        have hidx : ((n : Int) - 1).toNat = n - 1 := by omega
        obtain ⟨b1, o1, rfl⟩ := hA (ne_nil_of_lt (by omega : 0 < xs.length))
        refine ⟨_, wrap_i64 (n := (n : Int) - 1) (by omega) (by omega), ?_⟩
        (repeat (first | refine Or.inl ⟨rfl, rfl, ?_⟩ | refine Or.inl ⟨rfl, ?_⟩ | refine Or.inr ?_))
        refine ⟨⟨by omega, by omega⟩, ?_⟩
        (repeat (first | refine Or.inl ⟨rfl, rfl, ?_⟩ | refine Or.inl ⟨rfl, ?_⟩ | refine Or.inr ?_))
        refine Go_first (v := mkT y) rfl rfl rfl rfl (fun w _ hw => rxLoadRow tabOk rfl encT_is rfl (fun h => by first | rfl | cases h) hw hgy (by simp only [addA, hidx]) rfl) ?_
        refine VC_sound tabOk 100 ?_
        refine Go_aloneM rfl rfl rfl (OpTo_pcall (v := .bool (ltT (keyT it) (keyT y))) rfl rfl rfl rfl rfl (by kernel_rfl) (fun w hm _ => r14_ahead it y w) ?_)
        refine VC_sound tabOk 100 ?_
        refine ⟨fun hgt => ?_, fun hgt => ?_⟩
        · refine ⟨_, wrap_i64 (n := (n : Int) - 1) (by omega) (by omega), ?_⟩
          refine Go_fin (n - 1) ⟨by omega, fun z hz => ?_⟩ (by omega) ⟨rfl, rfl, congrArg (Value.int .i64) (by omega), trivial⟩ (fun _ h => h)
          have hdr : xs.drop (n - 1) = y :: xs.drop n := by
            obtain ⟨hh, rfl⟩ := List.getElem?_eq_some_iff.1 hgy
            rw [List.drop_eq_getElem_cons hh]; congr 2; omega
          rw [hdr] at hz
          rcases List.mem_cons.1 hz with rfl | hz
          · exact hgt
          · exact hd z hz
        · (repeat (first | refine Or.inl ⟨rfl, rfl, ?_⟩ | refine Or.inl ⟨rfl, ?_⟩ | refine Or.inr ?_))
          refine ⟨⟨by omega, by omega⟩, ?_⟩
          refine J n ⟨hn, hd, fun z hz => ?_⟩ _ _ ?_ ?_
          rotate_left
          · exact ⟨rfl, rfl, rfl, rfl, rfl, trivial⟩
          · exact fun _ h => h
          obtain ⟨j, hj1, hj2⟩ := mem_take_at hz
          have h1 : ltT (keyT y) (keyT z) = false := hrise.at_ ordT hj2 hgy (by omega)
          cases h5 : ltT (keyT it) (keyT z) with
          | false => rfl
          | true => have := ordT.lt_of_lt_le h5 h1; rw [hgt] at this; cases this
      · have h0 : n = 0 := by have := of_decide_eq_false hj; omega
        subst h0
        (repeat (first | refine Or.inl ⟨rfl, rfl, ?_⟩ | refine Or.inl ⟨rfl, ?_⟩ | refine Or.inr ?_))
        refine ⟨⟨by omega, by omega⟩, ?_⟩
        refine J 0 ⟨hn, hd, by simp⟩ _ _ ?_ ?_
        · exact ⟨rfl, rfl, rfl, rfl, rfl, trivial⟩
        · exact fun _ h => h
    case jr2 =>
      rintro n ⟨hn, hd, htk⟩
      have hput : RiseT (xs.take n ++ it :: xs.drop n) := by
        refine Rise.append (hrise.take n) (List.pairwise_cons.2 ⟨fun y hy => ordT.asym (hd y hy), hrise.drop n⟩) fun x hx y hy => ?_
        rcases List.mem_cons.1 hy with rfl | hy
        · exact htk x hx
        · obtain ⟨i, hi1, hi2⟩ := mem_take_at hx
          obtain ⟨j, hj1, hj2⟩ := mem_drop_at hy
          exact hrise.at_ ordT hi2 hj2 (by omega)
      have hperm : (xs ++ [it]).Perm (xs.take n ++ it :: xs.drop n) := by
        refine (List.perm_append_comm).trans ?_
        show (it :: xs).Perm _
        refine (List.Perm.of_eq ?_).trans (List.perm_middle (l₁ := xs.take n) (a := it) (l₂ := xs.drop n)).symm
        rw [List.take_append_drop]
      refine Go_res (own encT 9 64 none 0 [] :: .blk b10 64 (encT it) :: rfR b A c xs) (fun w h => h.own_nil none) ?_
      show Go _ _ _ _
      refine Go_ops rfl (OpTo_append tabOk encT_is (xs := []) (ys := xs.take n) (i := 0) rfl rfl rfl rfl rfl rfl rfl rfl rfl rfl (by simp; omega) (fun w hm _ => RdW.take_ encT_is (hm.own_rd (i := 3) rfl) n) (by simp; omega) (by simp; omega) (fun A2 c2 => ?_))
      refine VC_sound tabOk 100 ?_
      (repeat (first | refine Or.inl ⟨rfl, rfl, ?_⟩ | refine Or.inl ⟨rfl, ?_⟩ | refine Or.inr ?_))
      intro b99 _
      show Go _ _ _ _
      refine Go_ops rfl (OpTo_append tabOk encT_is (ys := [it]) (i := 1) rfl rfl rfl rfl rfl rfl rfl rfl rfl (by simp; omega) rfl (fun w hm _ => hm.blk_rd (i := 0) rfl) (by simp; omega) (by simp; omega) (fun A3 c3 => ?_))
      refine VC_sound tabOk 100 ?_
      (repeat (first | refine Or.inl ⟨rfl, rfl, ?_⟩ | refine Or.inl ⟨rfl, ?_⟩ | refine Or.inr ?_))
      refine ⟨⟨by omega, by omega⟩, ?_⟩
      show Go _ _ _ _
      refine Go_ops rfl (OpTo_append tabOk encT_is (ys := xs.drop n) (i := 1) rfl rfl rfl rfl rfl rfl rfl rfl rfl (by simp; omega) (by simp) (fun w hm _ => RdW.drop_ encT_is (hm.own_rd (i := 4) rfl) c n hn hcap.1) (by simp; omega) (by simp; omega) (fun A4 c4 => ?_))
      refine VC_sound tabOk 100 ?_
      (repeat (first | refine Or.inl ⟨rfl, rfl, ?_⟩ | refine Or.inl ⟨rfl, ?_⟩ | refine Or.inr ?_))
      have e1 : [] ++ xs.take n ++ [it] ++ xs.drop n = xs.take n ++ it :: xs.drop n := by simp
      have e2 : 0 + n + 1 + (xs.length - (n : Int).toNat) = (xs.take n ++ it :: xs.drop n).length := by simp; omega
      refine ⟨_, ⟨A4, c4, xs.take n ++ it :: xs.drop n, by rw [he]; rfl, .inl ⟨he, by rw [hit]; exact ⟨hperm, hput⟩⟩, rfl⟩, fun hfs w h => ?_⟩
      have h := h.sel [3, 1] rfl
      rw [e1, e2] at h
      exact h

theorem due_take (k : Int) {xs : List ItemM} (hr : xs.Pairwise fun a b => a.at_ ≤ b.at_) (i : Nat) (hi : i ≤ xs.length) (h1 : ∀ x ∈ xs.take i, x.at_ ≤ k) (h2 : ∀ x, xs[i]? = some x → k < x.at_) : dueL k xs = (xs.take i).map ItemM.ev := by
  have e : xs = xs.take i ++ xs.drop i := (List.take_append_drop i xs).symm
  have hd : ∀ x ∈ xs.drop i, k < x.at_ := fun x hx => by
    obtain ⟨j, hj1, hj2⟩ := mem_drop_at hx
    obtain ⟨hjl, rfl⟩ := List.getElem?_eq_some_iff.1 hj2
    have hil : i < xs.length := by omega
    have h3 := h2 _ (List.getElem?_eq_getElem hil)
    rcases Nat.lt_or_eq_of_le hj1 with hlt | rfl
    · have := List.pairwise_iff_getElem.1 hr i j hil hjl hlt; omega
    · exact h3
  have f1 : (xs.take i).filter (fun x => decide (x.at_ ≤ k)) = xs.take i := List.filter_eq_self.2 fun x hx => by simpa using h1 x hx
  have f2 : (xs.drop i).filter (fun x => decide (x.at_ ≤ k)) = [] := List.filter_eq_nil_iff.2 fun x hx => by have := hd x hx; simp; omega
  rw [dueL]
  conv => lhs; rw [e]
  rw [List.filter_append, f1, f2, List.append_nil]

set_option maxHeartbeats 2000000 in
theorem r14_due (b : Nat) (A : Option Addr) (c : Nat) (xs : List ItemM) (now : Int) (hrise : RiseT xs) (w0 : World) (hb : w0.heap[b]? = some (.cells #[.slice A xs.length c] 49 (0, 0))) (hr : RdW w0 A (xs.flatMap encT)) (hl : xs.length ≤ 10000) :
    Calls Try.prog 18 #[.pointer (some ⟨b, 0, none⟩), .int .i64 now] w0 fun r w' => ∃ v Rs', r = .returned v ∧ rowEvQ (dueL now xs) v Rs' ∧ Mod [heapOf w0] Rs' w' ∧ Oth w0 w' := by
  refine enterN (tab := tab) Try.func18 rfl Try.ntmps18 rfl (args := [_, _]) rfl (Mod.start w0) ?_
  refine VC_sound tabOk 100 ?_
  refine Go_loop (σ := Nat × Option Addr × Nat) (fun s => [(0, .v (.pointer (some ⟨b, 0, none⟩))), (1, .v (.int .i64 now)), (5, .v (.slice s.2.1 ((xs.take s.1).map ItemM.ev).length s.2.2)), (6, .v (.int .i64 s.1))]) (fun s => [own encE 8 33 s.2.1 s.2.2 ((xs.take s.1).map ItemM.ev)]) (fun s => s.1 ≤ xs.length ∧ ∀ x ∈ xs.take s.1, x.at_ ≤ now) (fun s => xs.length - s.1) (0, none, 0) ⟨Nat.zero_le _, by simp⟩ ⟨rfl, rfl, rfl, rfl, trivial⟩ (fun _ h => h.own_nil none) ?_
  rintro ⟨i, A', c'⟩ ⟨hi, hall⟩
  dsimp only at hi hall ⊢
  have hml : ((xs.take i).map ItemM.ev).length = i := by rw [List.length_map, List.length_take]; omega
  refine VC_sound tabOk 100 ?_
  refine Go_ops rfl (OpTo_loadBlk tabOk (cs := [.slice A xs.length c]) (.slice A xs.length c) rfl rfl rfl (fun w hm _ => hm.block_old hb) rfl ?_)
  refine VC_sound tabOk 100 ?_
  by_cases hlt : i < xs.length
  · obtain ⟨x, hgx⟩ : ∃ x, xs[i]? = some x := ⟨_, List.getElem?_eq_getElem hlt⟩
    obtain ⟨ba, oa, rfl⟩ := RdW.some encT_is hr (ne_nil_of_lt hlt)
    refine ⟨fun _ => ?_, fun h => by first | (simp at h; done) | (simp at h; omega) | (simp_all; done)⟩
    refine Go_ops rfl (OpTo_loadBlk tabOk (cs := [.slice (some ⟨ba, oa, none⟩) xs.length c]) (.slice (some ⟨ba, oa, none⟩) xs.length c) rfl rfl rfl (fun w hm _ => hm.block_old hb) rfl ?_)
    refine VC_sound tabOk 100 ?_
    refine ⟨⟨by omega, by omega⟩, ?_⟩
    refine Go_ops rfl (OpTo_loadPart tabOk encT_is (n := i) (j := 0) (.int .i64 x.at_) rfl rfl rfl (fun w hm _ => hr.mod hm) hgx rfl (by simp only [addA]; rfl) ?_)
    refine VC_sound tabOk 100 ?_
    refine ⟨fun h => ?_, fun h => ?_⟩
    · have hstep : (xs.take (i + 1)).map ItemM.ev = (xs.take i).map ItemM.ev ++ [x.ev] := by rw [List.take_add_one, hgx, List.map_append]; rfl
      refine Go_ops rfl (OpTo_loadBlk tabOk (cs := [.slice (some ⟨ba, oa, none⟩) xs.length c]) (.slice (some ⟨ba, oa, none⟩) xs.length c) rfl rfl rfl (fun w hm _ => hm.block_old hb) rfl ?_)
      refine VC_sound tabOk 100 ?_
      refine ⟨⟨by omega, by omega⟩, ?_⟩
      refine Go_ops rfl (OpTo_loadPart tabOk encT_is (n := i) (j := 1) (mkE x.ev) rfl rfl rfl (fun w hm _ => hr.mod hm) hgx rfl (by simp only [addA]; rfl) ?_)
      refine VC_sound tabOk 100 ?_
      intro b37 _
      show Go _ _ _ _
      refine Go_ops rfl (OpTo_append tabOk encE_is (ys := [x.ev]) (i := 1) rfl rfl rfl rfl rfl rfl rfl rfl rfl rfl rfl (fun w hm _ => hm.blk_rd (i := 0) rfl) (by simp; omega) (by simp; omega) (fun A2 c2 => ?_))
      refine VC_sound tabOk 100 ?_
      refine ⟨_, wrap_i64 (n := (i : Int) + 1) (by omega) (by omega), ?_⟩
      refine Go_fin (i + 1, A2, c2) ⟨by dsimp only; omega, fun y hy => ?_⟩ (by dsimp only; omega) ⟨rfl, rfl, ?_, rfl, trivial⟩ (fun _ h => by dsimp only; rw [hstep]; exact h.sel [1] rfl)
      · dsimp only at hy
        rw [List.take_add_one, hgx] at hy
        rcases List.mem_append.1 hy with hy | hy
        · exact hall y hy
        · simp at hy; subst hy; exact of_decide_eq_true h
      · dsimp only; rw [hstep, List.length_append]; rfl
    · have hd := due_take now (riseT_at hrise) i hi hall (fun y hy => by rw [hgx] at hy; cases hy; have := of_decide_eq_false h; omega)
      rw [hd]
      exact ⟨_, ⟨A', c', rfl, rfl⟩, fun _ _ h => h⟩
  · refine ⟨fun h => by first | (simp at h; done) | (simp at h; omega) | (simp_all; done), fun _ => ?_⟩
    have hd := due_take now (riseT_at hrise) i hi hall (fun y hy => by rw [List.getElem?_eq_none (by omega)] at hy; cases hy)
    rw [hd]
    exact ⟨_, ⟨A', c', rfl, rfl⟩, fun _ _ h => h⟩

set_option maxHeartbeats 1000000 in
theorem r14_take (b : Nat) (A : Option Addr) (c : Nat) (xs : List ItemM) (now : Int) (hl : xs.length ≤ 10000) (hrise : RiseT xs) (w0 : World) (hfs : List PH) (hm : Mod hfs (rfR b A c xs) w0) :
    Calls Try.prog 19 #[.pointer (some ⟨b, 0, none⟩), .int .i64 now] w0 fun r w' => ∃ v Rs', r = .returned v ∧ (∃ A1 c1 A' c', v = .slice A1 (dueL now xs).length c1 ∧ Rs' = own encE 8 33 A1 c1 (dueL now xs) :: rfR b A' c' (xs.drop (dueL now xs).length)) ∧ Mod hfs Rs' w' ∧ Oth w0 w' := by
  have hdl := dueL_len now xs
  have hcap := hm.own_le (i := 1) rfl
  refine enterN (tab := tab) Try.func19 rfl Try.ntmps19 rfl (args := [_, _]) rfl hm ?_
  refine VC_sound tabOk 100 ?_
  show Go _ _ _ _
  refine Go_ops rfl (OpTo_ncall rfl rfl rfl rfl rfl (by kernel_rfl) (fun w hm _ => r14_due b A c xs now hrise w (hm.blk_at (i := 0) rfl) (hm.own_rd (i := 1) rfl) hl) ?_)
  rintro _ _ ⟨A1, c1, rfl, rfl⟩
  refine VC_sound tabOk 100 ?_
  (repeat (first | refine Or.inl ⟨rfl, rfl, ?_⟩ | refine Or.inl ⟨rfl, ?_⟩ | refine Or.inr ?_))
  refine ⟨⟨by omega, by omega⟩, ?_⟩
  (repeat (first | refine Or.inl ⟨rfl, rfl, ?_⟩ | refine Or.inl ⟨rfl, ?_⟩ | refine Or.inr ?_))
  refine ⟨_, ⟨A1, c1, slA A c (dueL now xs).length 9, c - (dueL now xs).length, rfl, rfl⟩, fun hfs w h => ?_⟩
  have h := h.own_drop (i := 2) encT_is hdl rfl
  have e : xs.length - ((dueL now xs).length : Int).toNat = (xs.drop (dueL now xs).length).length := by simp
  rw [e] at h
  exact h

set_option maxHeartbeats 2000000 in
theorem r14_drop (b : Nat) (A : Option Addr) (c : Nat) (xs : List ItemM) (o : ByteArray) (hl : xs.length ≤ 10000) (w0 : World) (hfs : List PH) (hm : Mod hfs (rfR b A c xs) w0) :
    Calls Try.prog 21 #[.pointer (some ⟨b, 0, none⟩), .string o] w0 fun r w' => ∃ v Rs', r = .returned v ∧ (v = .int .i64 ((xs.length : Int) - (leftL o xs).length) ∧ ∃ A' c', Rs' = rfR b A' c' (leftL o xs)) ∧ Mod hfs Rs' w' ∧ Oth w0 w' := by
  have hA : xs ≠ [] → ∃ b o, A = some ⟨b, o, none⟩ := fun h => hm.own_some (i := 1) rfl h
  refine enterN (tab := tab) Try.func21 rfl Try.ntmps21 rfl (args := [_, _]) rfl hm ?_
  refine VC_sound tabOk 100 ?_
  refine Go_loop (σ := Nat × Option Addr × Nat) (fun s => [(0, .v (.pointer (some ⟨b, 0, none⟩))), (1, .v (.string o)), (5, .v (.slice s.2.1 (leftL o (xs.take s.1)).length s.2.2)), (6, .v (.int .i64 s.1))]) (fun s => own encT 9 64 s.2.1 s.2.2 (leftL o (xs.take s.1)) :: rfR b A c xs) (fun s => s.1 ≤ xs.length) (fun s => xs.length - s.1) (0, none, 0) (Nat.zero_le _) ⟨rfl, rfl, rfl, rfl, trivial⟩ (fun _ h => h.own_nil none) ?_
  rintro ⟨i, A', c'⟩ hi
  dsimp only at hi ⊢
  have hll : (leftL o (xs.take i)).length ≤ i := by
    have := List.length_filter_le (fun x : ItemM => !(x.ev.owner.toList == o.toList)) (xs.take i)
    rw [List.length_take] at this
    simp only [leftL]; omega
  refine VC_sound tabOk 100 ?_
  (repeat (first | refine Or.inl ⟨rfl, rfl, ?_⟩ | refine Or.inl ⟨rfl, ?_⟩ | refine Or.inr ?_))
  by_cases hlt : i < xs.length
  · obtain ⟨x, hgx⟩ : ∃ x, xs[i]? = some x := ⟨_, List.getElem?_eq_getElem hlt⟩
    obtain ⟨ba, oa, rfl⟩ := hA (ne_nil_of_lt hlt)
    have hstep : leftL o (xs.take (i + 1)) = leftL o (xs.take i) ++ if (!(x.ev.owner.toList == o.toList)) = true then [x] else [] := by
      simp only [leftL, List.take_add_one, hgx, List.filter_append]
      congr 1
      simp only [Option.toList_some, List.filter_cons, List.filter_nil]
    refine ⟨fun _ => ?_, fun h => by first | (simp at h; done) | (simp at h; omega) | (simp_all; done)⟩
    (repeat (first | refine Or.inl ⟨rfl, rfl, ?_⟩ | refine Or.inl ⟨rfl, ?_⟩ | refine Or.inr ?_))
    refine ⟨⟨by omega, by omega⟩, ?_⟩
    (repeat (first | refine Or.inl ⟨rfl, rfl, ?_⟩ | refine Or.inl ⟨rfl, ?_⟩ | refine Or.inr ?_))
    refine Go_ops rfl (OpTo_loadPart tabOk encT_is (n := i) (j := 3) (.string x.ev.owner) rfl rfl rfl (fun w hm _ => hm.own_rd (i := 2) rfl) hgx rfl (by simp only [addA]; rfl) ?_)
    refine VC_sound tabOk 100 ?_
    refine ⟨fun h => ?_, fun h => ?_⟩
    · rw [if_pos h] at hstep
      (repeat (first | refine Or.inl ⟨rfl, rfl, ?_⟩ | refine Or.inl ⟨rfl, ?_⟩ | refine Or.inr ?_))
      refine ⟨⟨by omega, by omega⟩, ?_⟩
      (repeat (first | refine Or.inl ⟨rfl, rfl, ?_⟩ | refine Or.inl ⟨rfl, ?_⟩ | refine Or.inr ?_))
      refine Go_ops rfl (OpTo_loadRow tabOk encT_is (mkT x) rfl rfl rfl rfl rfl (fun h => by first | rfl | cases h) (fun w hm _ => hm.own_rd (i := 2) rfl) hgx (by simp only [addA]; rfl) ?_)
      refine VC_sound tabOk 100 ?_
      intro b36 _
      show Go _ _ _ _
      refine Go_ops rfl (OpTo_append tabOk encT_is (ys := [x]) (i := 1) rfl rfl rfl rfl rfl rfl rfl rfl rfl rfl rfl (fun w hm _ => hm.blk_rd (i := 0) rfl) (by simp; omega) (by simp; omega) (fun A2 c2 => ?_))
      refine VC_sound tabOk 100 ?_
      refine ⟨_, wrap_i64 (n := (i : Int) + 1) (by omega) (by omega), ?_⟩
      refine Go_fin (i + 1, A2, c2) (by dsimp only; omega) (by dsimp only; omega) ⟨rfl, rfl, ?_, rfl, trivial⟩ (fun _ h => by dsimp only; rw [hstep]; exact h.sel [1, 2, 3] rfl)
      dsimp only; rw [hstep, List.length_append]; rfl
    · rw [if_neg (by rw [h]; simp), List.append_nil] at hstep
      refine ⟨_, wrap_i64 (n := (i : Int) + 1) (by omega) (by omega), ?_⟩
      refine Go_fin (i + 1, A', c') (by dsimp only; omega) (by dsimp only; omega) ⟨rfl, rfl, ?_, rfl, trivial⟩ (fun _ h => by dsimp only; rw [hstep]; exact h)
      dsimp only; rw [hstep]
  have he : i = xs.length := by omega
  subst he
  rw [List.take_length] at hll ⊢
  refine ⟨fun h => by first | (simp at h; done) | (simp at h; omega) | (simp_all; done), fun _ => ?_⟩
  (repeat (first | refine Or.inl ⟨rfl, rfl, ?_⟩ | refine Or.inl ⟨rfl, ?_⟩ | refine Or.inr ?_))
  refine ⟨_, wrap_i64 (n := (xs.length : Int) - (leftL o xs).length) (by omega) (by omega), ?_⟩
  (repeat (first | refine Or.inl ⟨rfl, rfl, ?_⟩ | refine Or.inl ⟨rfl, ?_⟩ | refine Or.inr ?_))
  exact ⟨_, ⟨rfl, A', c', rfl⟩, fun _ _ h => h.sel [1, 0] rfl⟩

set_option maxHeartbeats 4000000 in
/-- Both are alike. -/
theorem l14_like (b : Nat) (A : Option Addr) (c : Nat) (b' : Nat) (A' : Option Addr) (c' : Nat) (xs : List ItemM) (hl : xs.length ≤ 10000) (w0 : World) (hb : w0.heap[b]? = some (.cells #[.slice A xs.length c] 54 (0, 0))) (hr : RdW w0 A (xs.flatMap encT)) (hb' : w0.heap[b']? = some (.cells #[.slice A' xs.length c'] 49 (0, 0))) (hr' : RdW w0 A' (xs.flatMap encT)) :
    Calls Try.prog 22 #[.pointer (some ⟨b, 0, none⟩), .pointer (some ⟨b', 0, none⟩)] w0 fun e w' => e = .returned (.bool true) ∧ BelowD w0.heap.size w0 w' := by
  refine enterP (tab := tab) Try.func22 rfl Try.ntmps22 rfl (args := [_, _]) rfl ?_
  refine VC_sound tabOk 100 ?_
  show Go _ _ _ _
  refine Go_ops rfl (OpTo_ncall rfl rfl rfl rfl rfl (by kernel_rfl) (fun w hm _ => retry_all b A c xs w (hm.block_old hb) (hr.mod hm) (by omega)) ?_)
  rintro _ _ ⟨A1, c1, rfl, rfl⟩
  refine VC_sound tabOk 100 ?_
  refine Go_ops rfl (OpTo_loadBlk tabOk (cs := [.slice A' xs.length c']) (.slice A' xs.length c') rfl rfl rfl (fun w hm _ => hm.block_old hb') rfl ?_)
  refine VC_sound tabOk 100 ?_
  refine ⟨fun h => by first | (simp at h; done) | (simp at h; omega) | (simp_all; done), fun _ => ?_⟩
  refine Go_loop (σ := Nat) (fun i => [(1, .v (.pointer (some ⟨b', 0, none⟩))), (5, .v (.slice A1 xs.length c1)), (6, .v (.int .i64 i))]) (fun _ => [own encT 9 38 A1 c1 xs]) (fun i => i ≤ xs.length) (fun i => xs.length - i) 0 (Nat.zero_le _) ⟨rfl, rfl, rfl, trivial⟩ (fun _ h => h) ?_
  intro i hi
  dsimp only at hi ⊢
  by_cases hlt : i < xs.length
  · obtain ⟨x, hgx⟩ : ∃ x, xs[i]? = some x := ⟨_, List.getElem?_eq_getElem hlt⟩
    obtain ⟨ba, oa, rfl⟩ := RdW.some encT_is hr' (ne_nil_of_lt hlt)
    refine Go_with _ (fun w hm _ => hm.own_some (i := 0) rfl (ne_nil_of_lt hlt)) ?_
    rintro ⟨b1, o1, rfl⟩
    refine VC_sound tabOk 100 ?_
    refine ⟨fun _ => ?_, fun h => by first | (simp at h; done) | (simp at h; omega) | (simp_all; done)⟩
    show Go _ _ _ _
    refine Go_any mixed [] [(0, false), (1, false), (2, false), (3, false), (5, false), (6, false), (7, false), (9, false), (4, false), (8, false), (10, false), (11, false), (12, false), (13, false), (14, false), (15, false), (16, false), (17, false), (18, false), (20, false), (21, false), (22, false), (24, false), (19, false), (23, false), (25, false), (26, false), (27, false), (28, false), (29, false)] rfl (by kernel_rfl) (by kernel_rfl) [] (fun w => (RdW w (some ⟨b1, o1, none⟩) (xs.flatMap encT) ∧ RdW w (some ⟨ba, oa, none⟩) (xs.flatMap encT)) ∧ w.heap[b']? = some (.cells #[.slice (some ⟨ba, oa, none⟩) xs.length c'] 49 (0, 0))) (fun w w' hk h => ⟨⟨h.1.1.old hk, h.1.2.old hk⟩, by rw [hk b' (Array.getElem?_eq_some_iff.1 h.2).1]; exact h.2⟩) (fun w hm _ => ⟨trivial, ⟨by exact Mod.own_rd (k := 9) (T := 38) (c := c1) (i := 0) hm rfl, hr'.mod hm⟩, hm.block_old hb'⟩) ?_
    refine VC_sound tabOk 100 ?_
    refine ⟨⟨by omega, by omega⟩, ?_⟩
    refine Go_first (v := .int .i64 x.at_) rfl rfl rfl rfl (fun w _ hw => rxLoadPart tabOk rfl encT_is hw.1.1 hgx (off := 0) rfl (by simp only [addA]; rfl)) ?_
    refine VC_sound tabOk 100 ?_
    refine Go_first (v := .slice (some ⟨ba, oa, none⟩) xs.length c') rfl rfl rfl rfl (fun w _ hw => run_loadVar_at (cs := [.slice (some ⟨ba, oa, none⟩) xs.length c']) tabOk rfl hw.2 rfl) ?_
    refine VC_sound tabOk 100 ?_
    refine ⟨⟨by omega, by omega⟩, ?_⟩
    refine Go_first (v := .int .i64 x.at_) rfl rfl rfl rfl (fun w _ hw => rxLoadPart tabOk rfl encT_is hw.1.2 hgx (off := 0) rfl (by simp only [addA]; rfl)) ?_
    refine VC_sound tabOk 100 ?_
    refine ⟨fun h => by first | (simp at h; done) | (simp at h; omega) | (simp_all; done), fun _ => ?_⟩
    refine ⟨⟨by omega, by omega⟩, ?_⟩
    refine Go_first (v := mkE x.ev) rfl rfl rfl rfl (fun w _ hw => rxLoadPart tabOk rfl encT_is hw.1.1 hgx (off := 1) rfl (by simp only [addA]; rfl)) ?_
    refine VC_sound tabOk 100 ?_
    refine Go_first (v := .slice (some ⟨ba, oa, none⟩) xs.length c') rfl rfl rfl rfl (fun w _ hw => run_loadVar_at (cs := [.slice (some ⟨ba, oa, none⟩) xs.length c']) tabOk rfl hw.2 rfl) ?_
    refine VC_sound tabOk 100 ?_
    refine ⟨⟨by omega, by omega⟩, ?_⟩
    refine Go_first (v := mkE x.ev) rfl rfl rfl rfl (fun w _ hw => rxLoadPart tabOk rfl encT_is hw.1.2 hgx (off := 1) rfl (by simp only [addA]; rfl)) ?_
    refine VC_sound tabOk 100 ?_
    refine Go_firstB (.bool (!evEq x.ev x.ev)) rfl rfl rfl rfl rfl (fun w => ev_neq x.ev x.ev _ _ w) ?_
    rw [evEq_self]
    refine VC_sound tabOk 100 ?_
    refine ⟨fun h => by first | (simp at h; done) | (simp at h; omega) | (simp_all; done), fun _ => ?_⟩
    refine ⟨_, wrap_i64 (n := (i : Int) + 1) (by omega) (by omega), ?_⟩
    exact Go_fin (i + 1) (by omega) (by omega) ⟨rfl, rfl, rfl, trivial⟩ (fun _ h => h)
  refine VC_sound tabOk 100 ?_
  refine ⟨fun h => by first | (simp at h; done) | (simp at h; omega) | (simp_all; done), fun _ => ?_⟩
  rfl
end Go.Proofs.Ytcombnlddbimoaa
