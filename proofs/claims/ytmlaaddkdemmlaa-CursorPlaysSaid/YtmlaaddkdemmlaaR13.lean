/- What the reference of layer 13 does. -/
import Derived.Test.YtmlaaddkdemmlaaL13c
import Derived.Test.YtmlaaddkdemmlaaRxStab
set_option autoImplicit false
set_option linter.unusedVariables false
set_option linter.unusedSimpArgs false
namespace Go.Proofs.Ytmlaaddkdemmlaa
open Go.RX Go Go.RowKit


theorem RdW.take_ {α : Type} {enc : α → List Value} {k : Nat} (he : IsEnc enc k) {w : World} {A : Option Addr} {xs : List α} (h : RdW w A (xs.flatMap enc)) (n : Nat) : RdW w A ((xs.take n).flatMap enc) := by
  rcases h with h | ⟨b, o, h1, h2⟩
  · have := he.flat_nil h; subst this; exact .inl (by simp)
  · refine .inr ⟨b, o, h1, fun j v hv => h2 j v ?_⟩
    rw [← List.take_append_drop n xs, List.flatMap_append, List.getElem?_append_left (List.getElem?_eq_some_iff.1 hv).1]; exact hv
theorem RdW.drop_ {α : Type} {enc : α → List Value} {k : Nat} (he : IsEnc enc k) {w : World} {A : Option Addr} {xs : List α} (h : RdW w A (xs.flatMap enc)) (c n : Nat) (hn : n ≤ xs.length) (hc : xs.length ≤ c) : RdW w (slA A c n k) ((xs.drop n).flatMap enc) := by
  by_cases hcn : c = n
  · exact .inl (by rw [List.drop_of_length_le (by omega)]; rfl)
  rcases h with h | ⟨b, o, rfl, h2⟩
  · have := he.flat_nil h; subst this; exact .inl (by simp)
  · refine .inr ⟨b, o + n * k, ?_, fun j v hv => ?_⟩
    · rw [slA, if_neg hcn]
      show some (Addr.add _ _) = _
      rw [← addA_eq]; rfl
    · have := h2 (n * k + j) v (by
        have e := he.flat_len (xs.take n)
        rw [List.length_take, Nat.min_eq_left hn] at e
        rw [← List.take_append_drop n xs, List.flatMap_append, List.getElem?_append_right (by omega), e, Nat.add_sub_cancel_left]; exact hv)
      rwa [← Nat.add_assoc] at this

theorem gtS (x y : ByteArray) : (!(Op.bytesLess x.toList y.toList || x.toList == y.toList)) = ltS y x := by
  have e : Op.bytesLess x.toList y.toList = ltS x y := rfl
  rw [e]
  cases h1 : ltS x y with
  | true => rw [ordS.asym h1]; rfl
  | false =>
    cases h2 : ltS y x with
    | true =>
      have : ¬ (x.toList == y.toList) = true := fun h => by
        have := toList_inj (by simpa using h)
        subst this
        rw [ordS.irr] at h2; cases h2
      simp [this]
    | false =>
      have := ordS.tri _ _ h1 h2
      subst this
      simp

theorem eqS (a b : ByteArray) : (a.toList == b.toList) = decide (a = b) := by
  rw [Bool.eq_iff_iff, beq_iff_eq, decide_eq_true_eq]
  exact ⟨toList_inj, fun h => by rw [h]⟩

abbrev rfC (b : Nat) (A : Option Addr) (c : Nat) (ys : List CurV) : List Res := [.blk b 46 [.slice A ys.length c], own encC 3 65 A c ys]

/-- The place of one. -/
def fI (k : ByteArray) (ys : List CurV) : Int := match ys.findIdx? fun x => decide (x.name = k) with
  | some i => (i : Int)
  | none => -1
theorem fI_at {k : ByteArray} {ys : List CurV} {i : Nat} (hi : i < ys.length) (h1 : ys[i].name = k) (h2 : ∀ j (hj : j < i), (ys[j]'(by omega)).name ≠ k) : fI k ys = i := by
  have : (ys.findIdx? fun x => decide (x.name = k)) = some i := List.findIdx?_eq_some_iff_getElem.2 ⟨hi, by simpa using h1, fun j hj => by simpa using h2 j hj⟩
  rw [fI, this]
theorem fI_none {k : ByteArray} {ys : List CurV} (h : ∀ y ∈ ys, y.name ≠ k) : fI k ys = -1 := by
  have : (ys.findIdx? fun x => decide (x.name = k)) = none := List.findIdx?_eq_none_iff.2 fun x hx => by simpa using h x hx
  rw [fI, this]
theorem fI_split {k : ByteArray} {y1 y2 : List CurV} {y : CurV} (hy : y.name = k) (h1 : ∀ z ∈ y1, z.name ≠ k) : fI k (y1 ++ y :: y2) = y1.length :=
  fI_at (by simp) (by rw [List.getElem_append_right (Nat.le_refl _)]; simpa using hy) fun j hj => by
    rw [List.getElem_append_left hj]; exact h1 _ (List.getElem_mem hj)

set_option maxHeartbeats 1000000 in
theorem r13_find (b : Nat) (A : Option Addr) (c : Nat) (ys : List CurV) (k : ByteArray) (hl : ys.length ≤ 1000) (w0 : World) (hb : w0.heap[b]? = some (.cells #[.slice A ys.length c] 46 (0, 0))) (hr : RdW w0 A (ys.flatMap encC)) :
    Calls Try.prog 23 #[.pointer (some ⟨b, 0, none⟩), .string k] w0 fun e w' => e = .returned (.int .i64 (fI k ys)) ∧ BelowD w0.heap.size w0 w' := by
  refine enterP (tab := tab) Try.func23 rfl Try.ntmps23 rfl (args := [_, _]) rfl ?_
  refine VC_sound tabOk 100 ?_
  refine Go_loop (σ := Nat) (fun i => [(0, .v (.pointer (some ⟨b, 0, none⟩))), (1, .v (.string k)), (5, .v (.int .i64 i))]) (fun _ => []) (fun i => i ≤ ys.length ∧ ∀ j (h : j < ys.length), j < i → ys[j].name ≠ k) (fun i => ys.length - i) 0 ⟨Nat.zero_le _, fun _ _ h => by omega⟩ ⟨rfl, rfl, rfl, trivial⟩ (fun _ h => h) ?_
  rintro i ⟨hi, hne⟩
  dsimp only at hi hne ⊢
  refine VC_sound tabOk 100 ?_
  refine Go_ops rfl (OpTo_loadBlk tabOk (cs := [.slice A ys.length c]) (.slice A ys.length c) rfl rfl rfl (fun w hm _ => hm.block_old hb) rfl ?_)
  by_cases hlt : i < ys.length
  · obtain ⟨ba, oa, rfl⟩ := RdW.some encC_is hr (ne_nil_of_lt hlt)
    refine VC_sound tabOk 100 ?_
    refine ⟨fun _ => ?_, fun h => by first | (simp at h; done) | (simp at h; omega) | (simp_all; done)⟩
    refine Go_ops rfl (OpTo_loadBlk tabOk (cs := [.slice (some ⟨ba, oa, none⟩) ys.length c]) (.slice (some ⟨ba, oa, none⟩) ys.length c) rfl rfl rfl (fun w hm _ => hm.block_old hb) rfl ?_)
    refine VC_sound tabOk 100 ?_
    refine ⟨⟨by omega, by omega⟩, ?_⟩
    refine Go_ops rfl (OpTo_loadPart tabOk encC_is (j := 0) (.string ys[i].name) rfl rfl rfl (fun w hm _ => hr.mod hm) (List.getElem?_eq_getElem hlt) rfl (by simp only [addA]; rfl) ?_)
    refine VC_sound tabOk 100 ?_
    refine ⟨fun h => ?_, fun h => ?_⟩
    · rw [eqS] at h
      refine congrArg (Value.int .i64) (fI_at hlt (of_decide_eq_true h) fun j hj => hne j (by omega) hj).symm
    · rw [eqS] at h
      refine ⟨_, wrap_i64 (n := (i : Int) + 1) (by omega) (by omega), ?_⟩
      refine Go_fin (i + 1) ⟨by omega, fun j h1 h2 => ?_⟩ (by omega) ⟨rfl, rfl, rfl, trivial⟩ (fun _ h => h)
      by_cases e : j = i
      · subst e; exact of_decide_eq_false h
      · exact hne j h1 (by omega)
  · refine VC_sound tabOk 100 ?_
    refine ⟨fun h => by first | (simp at h; done) | (simp at h; omega) | (simp_all; done), fun _ => ?_⟩
    refine congrArg (Value.int .i64) (fI_none fun y hy => ?_).symm
    obtain ⟨j, hj, rfl⟩ := List.mem_iff_getElem.1 hy
    exact hne j hj (by omega)

set_option maxHeartbeats 1000000 in
theorem r13_set (b : Nat) (A : Option Addr) (c : Nat) (y1 y2 : List CurV) (y x : CurV) (hl : (y1 ++ y :: y2).length ≤ 1000) (w0 : World) (hfs : List PH) (hm : Mod hfs (rfC b A c (y1 ++ y :: y2)) w0) :
    Calls Try.prog 28 #[.pointer (some ⟨b, 0, none⟩), .int .i64 y1.length, mkC x] w0 fun e w' => ∃ v Rs', e = .returned v ∧ (v = .tuple #[] ∧ ∃ A' c', Rs' = rfC b A' c' (y1 ++ x :: y2)) ∧ Mod hfs Rs' w' ∧ Oth w0 w' := by
  refine enterN (tab := tab) Try.func28 rfl Try.ntmps28 rfl (args := [_, _, _]) rfl hm ?_
  refine VC_sound tabOk 100 ?_
  intro b5 _
  (repeat (first | refine Or.inl ⟨rfl, rfl, ?_⟩ | refine Or.inl ⟨rfl, ?_⟩ | refine Or.inr ?_))
  refine Go_res (own encC 3 65 none 0 [] :: .blk b5 65 (encC x) :: rfC b A c (y1 ++ y :: y2)) (fun w h => h.own_nil none) ?_
  show Go _ _ _ _
  refine Go_ops rfl (OpTo_append tabOk encC_is (xs := []) (ys := y1 ++ y :: y2) (i := 0) rfl rfl rfl rfl rfl rfl rfl rfl rfl rfl rfl (fun w hm _ => hm.own_rd (i := 3) rfl) (by simp at hl ⊢; omega) (by simp at hl ⊢; omega) (fun A2 c2 => ?_))
  rw [List.nil_append]
  refine Go_with _ (fun w hm _ => hm.own_some (i := 0) rfl (by simp)) ?_
  rintro ⟨ba, oa, rfl⟩
  refine VC_sound tabOk 100 ?_
  (repeat (first | refine Or.inl ⟨rfl, rfl, ?_⟩ | refine Or.inl ⟨rfl, ?_⟩ | refine Or.inr ?_))
  refine ⟨⟨by omega, by simp; omega⟩, ?_⟩
  (repeat (first | refine Or.inl ⟨rfl, rfl, ?_⟩ | refine Or.inl ⟨rfl, ?_⟩ | refine Or.inr ?_))
  show Go _ _ _ _
  refine Go_ops rfl (OpTo_storeRow tabOk encC_is (n := y1.length) (u := x) (xs := y1 ++ y :: y2) 0 rfl rfl rfl rfl rfl rfl rfl (by simp) (by simp only [addA]; rfl) rfl ?_)
  refine VC_sound tabOk 100 ?_
  (repeat (first | refine Or.inl ⟨rfl, rfl, ?_⟩ | refine Or.inl ⟨rfl, ?_⟩ | refine Or.inr ?_))
  refine ⟨_, ⟨rfl, some ⟨ba, oa, none⟩, c2, rfl⟩, fun hfs w h => ?_⟩
  have h := h.sel [2, 0] rfl
  have e : (y1 ++ y :: y2).set y1.length x = y1 ++ x :: y2 := by rw [List.set_append_right _ _ (Nat.le_refl _), Nat.sub_self, List.set_cons_zero]
  have e2 : 0 + (y1 ++ y :: y2).length = (y1 ++ x :: y2).length := by simp
  rw [e, e2] at h
  exact h

/-! ### who is there -/
/-- What Register comes to. -/
def regY (k : ByteArray) (at_ : Int) (ys : List CurV) : Int :=
  if k.size = 0 ∨ 40 < k.size ∨ at_ < 1 then 1 else if 0 ≤ fI k ys then 5 else if 4 ≤ ys.length then 8 else 0
theorem fI_in {k : ByteArray} {ys : List CurV} : 0 ≤ fI k ys ↔ k ∈ ys.map CurV.name := by
  by_cases h : k ∈ ys.map CurV.name
  · simp only [h, iff_true]
    obtain ⟨y, hy, rfl⟩ := List.mem_map.1 h
    unfold fI
    split
    · omega
    · rename_i h0
      have := List.findIdx?_eq_none_iff.1 h0 y hy
      simp at this
  · simp only [h, iff_false]
    rw [fI_none fun y hy e => h (List.mem_map.2 ⟨y, hy, e⟩)]
    decide

set_option maxHeartbeats 4000000 in
theorem r13_register (b : Nat) (A : Option Addr) (c : Nat) (ys : List CurV) (k : ByteArray) (at_ : Int) (hl : ys.length ≤ 1000) (hrise : Rise ltS CurV.name ys) (w0 : World) (hfs : List PH) (hm : Mod hfs (rfC b A c ys) w0) :
    Calls Try.prog 19 #[.pointer (some ⟨b, 0, none⟩), .string k, .int .i64 at_] w0 fun e w' => ∃ v Rs', e = .returned v ∧ (v = .int .i64 (regY k at_ ys) ∧ ∃ A' c' zs, Rs' = rfC b A' c' zs ∧ ((regY k at_ ys = 0 ∧ (ys ++ [(⟨k, at_, 0⟩ : CurV)]).Perm zs ∧ Rise ltS CurV.name zs) ∨ (regY k at_ ys ≠ 0 ∧ zs = ys))) ∧ Mod hfs Rs' w' ∧ Oth w0 w' := by
  have hcap := hm.own_le (i := 1) rfl
  have hA : ys ≠ [] → ∃ b o, A = some ⟨b, o, none⟩ := fun h => hm.own_some (i := 1) rfl h
  have stay : ∀ e : Int, e ≠ 0 → regY k at_ ys = e → Value.int .i64 e = .int .i64 (regY k at_ ys) ∧ ∃ A' c' zs, rfC b A c ys = rfC b A' c' zs ∧ ((regY k at_ ys = 0 ∧ (ys ++ [(⟨k, at_, 0⟩ : CurV)]).Perm zs ∧ Rise ltS CurV.name zs) ∨ (regY k at_ ys ≠ 0 ∧ zs = ys)) :=
    fun e h1 h2 => ⟨by rw [h2], A, c, ys, rfl, .inr ⟨by rw [h2]; exact h1, rfl⟩⟩
  refine enterN (tab := tab) Try.func19 rfl Try.ntmps19 rfl (args := [_, _, _]) rfl hm ?_
  refine VC_sound tabOk 100 ?_
  refine ⟨fun h1 => ?_, fun h1 => ?_⟩
  · exact ⟨_, stay 1 (by decide) (by rw [regY, if_pos (.inl (by have := of_decide_eq_true h1; omega))]), fun _ _ h => h⟩
  have h1' := of_decide_eq_false h1
  refine ⟨fun h2 => ?_, fun h2 => ?_⟩
  · exact ⟨_, stay 1 (by decide) (by rw [regY, if_pos (.inr (.inl (by have := of_decide_eq_true h2; omega)))]), fun _ _ h => h⟩
  have h2' := of_decide_eq_false h2
  refine ⟨fun h3 => ?_, fun h3 => ?_⟩
  · exact ⟨_, stay 1 (by decide) (by rw [regY, if_pos (.inr (.inr (of_decide_eq_true h3)))]), fun _ _ h => h⟩
  have h3' := of_decide_eq_false h3
  have hn : ¬ (k.size = 0 ∨ 40 < k.size ∨ at_ < 1) := by omega
  refine Go_ops rfl (OpTo_pcall (v := .int .i64 (fI k ys)) rfl rfl rfl rfl rfl (by kernel_rfl) (fun w hm _ => r13_find b A c ys k hl w (hm.blk_at (i := 0) rfl) (hm.own_rd (i := 1) rfl)) ?_)
  refine VC_sound tabOk 100 ?_
  refine ⟨fun h4 => ?_, fun h4 => ?_⟩
  · exact ⟨_, stay 5 (by decide) (by rw [regY, if_neg hn, if_pos (of_decide_eq_true h4)]), fun _ _ h => h⟩
  have h4' : ¬ 0 ≤ fI k ys := of_decide_eq_false h4
  (repeat (first | refine Or.inl ⟨rfl, rfl, ?_⟩ | refine Or.inl ⟨rfl, ?_⟩ | refine Or.inr ?_))
  refine ⟨fun h5 => ?_, fun h5 => ?_⟩
  · exact ⟨_, stay 8 (by decide) (by rw [regY, if_neg hn, if_neg h4', if_pos (by have := of_decide_eq_true h5; omega)]), fun _ _ h => h⟩
  have he : regY k at_ ys = 0 := by rw [regY, if_neg hn, if_neg h4', if_neg (by have := of_decide_eq_false h5; omega)]
  (repeat (first | refine Or.inl ⟨rfl, rfl, ?_⟩ | refine Or.inl ⟨rfl, ?_⟩ | refine Or.inr ?_))
  refine Go_join (E := ?jE2) (k := ?jk2) (σ := Nat) (fun n => [(0, .v (.pointer (some ⟨b, 0, none⟩))), (1, .v (.string k)), (2, .v (.int .i64 at_)), (7, .v (.int .i64 n)), (53, .v (.slice none 0 0)), (59, .v (.slice A n c))]) (fun _ => rfC b A c ys)
    (fun n => n ≤ ys.length ∧ (∀ y ∈ ys.drop n, ltS k y.name = true) ∧ ∀ y ∈ ys.take n, ltS k y.name = false) ?jm2 ?jr2
  case jm2 =>
    intro J
    refine Go_loop (σ := Nat) (fun n => [(0, .v (.pointer (some ⟨b, 0, none⟩))), (1, .v (.string k)), (2, .v (.int .i64 at_)), (7, .v (.int .i64 n))]) (fun _ => rfC b A c ys) (fun n => n ≤ ys.length ∧ ∀ y ∈ ys.drop n, ltS k y.name = true) (fun n => n) ys.length ⟨Nat.le_refl _, by simp⟩ ⟨rfl, rfl, rfl, rfl, trivial⟩ (fun _ h => h) ?_
    rintro n ⟨hn, hd⟩
    dsimp only at hn hd ⊢
    refine VC_sound tabOk 100 ?_
    refine ⟨fun hj => ?_, fun hj => ?_⟩
    · have h0 : 0 < n := by have := of_decide_eq_true hj; omega
      obtain ⟨y, hgy⟩ : ∃ y, ys[n - 1]? = some y := ⟨_, List.getElem?_eq_getElem (by omega)⟩
      have hidx : ((n : Int) - 1).toNat = n - 1 := by omega
      obtain ⟨b1, o1, rfl⟩ := hA (ne_nil_of_lt (by omega : 0 < ys.length))
      (repeat (first | refine Or.inl ⟨rfl, rfl, ?_⟩ | refine Or.inl ⟨rfl, ?_⟩ | refine Or.inr ?_))
      refine ⟨_, wrap_i64 (n := (n : Int) - 1) (by omega) (by omega), ?_⟩
      refine ⟨⟨by omega, by omega⟩, ?_⟩
      (repeat (first | refine Or.inl ⟨rfl, rfl, ?_⟩ | refine Or.inl ⟨rfl, ?_⟩ | refine Or.inr ?_))
      refine Go_ops rfl (OpTo_loadPart tabOk encC_is (j := 0) (.string y.name) rfl rfl rfl (fun w hm _ => hm.own_rd (i := 1) rfl) hgy rfl (by simp only [addA, hidx]) ?_)
      refine VC_sound tabOk 100 ?_
      refine ⟨fun hgt => ?_, fun hgt => ?_⟩
      · rw [gtS] at hgt
        refine ⟨_, wrap_i64 (n := (n : Int) - 1) (by omega) (by omega), ?_⟩
        refine Go_fin (n - 1) ⟨by omega, fun z hz => ?_⟩ (by omega) ⟨rfl, rfl, rfl, congrArg (Value.int .i64) (by omega), trivial⟩ (fun _ h => h)
        have hdr : ys.drop (n - 1) = y :: ys.drop n := by
          obtain ⟨hh, rfl⟩ := List.getElem?_eq_some_iff.1 hgy
          rw [List.drop_eq_getElem_cons hh]; congr 2; omega
        rw [hdr] at hz
        rcases List.mem_cons.1 hz with rfl | hz
        · exact hgt
        · exact hd z hz
      · rw [gtS] at hgt
        (repeat (first | refine Or.inl ⟨rfl, rfl, ?_⟩ | refine Or.inl ⟨rfl, ?_⟩ | refine Or.inr ?_))
        refine ⟨⟨by omega, by omega⟩, ?_⟩
        refine J n ⟨hn, hd, fun z hz => ?_⟩ _ _ ?_ ?_
        rotate_left
        · exact ⟨rfl, rfl, rfl, rfl, rfl, rfl, trivial⟩
        · exact fun _ h => h
        obtain ⟨j, hj1, hj2⟩ := mem_take_at hz
        have h1 : ltS y.name z.name = false := hrise.at_ ordS hj2 hgy (by omega)
        cases h5 : ltS k z.name with
        | false => rfl
        | true => have := ordS.lt_of_lt_le h5 h1; rw [hgt] at this; cases this
    · have h0 : n = 0 := by have := of_decide_eq_false hj; omega
      subst h0
      (repeat (first | refine Or.inl ⟨rfl, rfl, ?_⟩ | refine Or.inl ⟨rfl, ?_⟩ | refine Or.inr ?_))
      refine ⟨⟨by omega, by omega⟩, ?_⟩
      refine J 0 ⟨hn, hd, by simp⟩ _ _ ?_ ?_
      · exact ⟨rfl, rfl, rfl, rfl, rfl, rfl, trivial⟩
      · exact fun _ h => h
  case jr2 =>
    rintro n ⟨hn, hd, htk⟩
    generalize hit : (⟨k, at_, 0⟩ : CurV) = it
    have hk : it.name = k := by rw [← hit]
    have hput : Rise ltS CurV.name (ys.take n ++ it :: ys.drop n) := by
      refine Rise.append (hrise.take n) (List.pairwise_cons.2 ⟨fun y hy => ordS.asym (by rw [hk]; exact hd y hy), hrise.drop n⟩) fun x hx y hy => ?_
      rcases List.mem_cons.1 hy with rfl | hy
      · rw [hk]; exact htk x hx
      · obtain ⟨i, hi1, hi2⟩ := mem_take_at hx
        obtain ⟨j, hj1, hj2⟩ := mem_drop_at hy
        exact hrise.at_ ordS hi2 hj2 (by omega)
    have hperm : (ys ++ [it]).Perm (ys.take n ++ it :: ys.drop n) := by
      refine (List.perm_append_comm).trans ?_
      show (it :: ys).Perm _
      refine (List.Perm.of_eq ?_).trans (List.perm_middle (l₁ := ys.take n) (a := it) (l₂ := ys.drop n)).symm
      rw [List.take_append_drop]
    refine Go_res (own encC 3 65 none 0 [] :: rfC b A c ys) (fun w h => h.own_nil none) ?_
    show Go _ _ _ _
    refine Go_ops rfl (OpTo_append tabOk encC_is (xs := []) (ys := ys.take n) (i := 0) rfl rfl rfl rfl rfl rfl rfl rfl rfl rfl (by simp; omega) (fun w hm _ => RdW.take_ encC_is (hm.own_rd (i := 2) rfl) n) (by simp; omega) (by simp; omega) (fun A2 c2 => ?_))
    refine VC_sound tabOk 100 ?_
    intro b99 _
    show Go _ _ _ _
    refine Go_ops rfl (OpTo_append tabOk encC_is (ys := [it]) (i := 1) rfl rfl rfl rfl rfl rfl rfl rfl rfl (by simp; omega) rfl (fun w hm _ => by rw [← hit]; exact hm.blk_rd (i := 0) rfl) (by simp; omega) (by simp; omega) (fun A3 c3 => ?_))
    refine VC_sound tabOk 100 ?_
    (repeat (first | refine Or.inl ⟨rfl, rfl, ?_⟩ | refine Or.inl ⟨rfl, ?_⟩ | refine Or.inr ?_))
    refine ⟨⟨by omega, by omega⟩, ?_⟩
    show Go _ _ _ _
    refine Go_ops rfl (OpTo_append tabOk encC_is (ys := ys.drop n) (i := 1) rfl rfl rfl rfl rfl rfl rfl rfl rfl (by simp; omega) (by simp) (fun w hm _ => RdW.drop_ encC_is (hm.own_rd (i := 3) rfl) c n hn hcap.1) (by simp; omega) (by simp; omega) (fun A4 c4 => ?_))
    refine VC_sound tabOk 100 ?_
    (repeat (first | refine Or.inl ⟨rfl, rfl, ?_⟩ | refine Or.inl ⟨rfl, ?_⟩ | refine Or.inr ?_))
    have e1 : [] ++ ys.take n ++ [it] ++ ys.drop n = ys.take n ++ it :: ys.drop n := by simp
    have e2 : 0 + n + 1 + (ys.length - (n : Int).toNat) = (ys.take n ++ it :: ys.drop n).length := by simp; omega
    refine ⟨_, ⟨by rw [he]; rfl, A4, c4, ys.take n ++ it :: ys.drop n, rfl, .inl ⟨he, hperm, hput⟩⟩, fun hfs w h => ?_⟩
    have h := h.sel [2, 1] rfl
    rw [e1, e2] at h
    exact h

set_option maxHeartbeats 1000000 in
theorem r13_unregister_no (b : Nat) (A : Option Addr) (c : Nat) (ys : List CurV) (k : ByteArray) (hl : ys.length ≤ 1000) (hk : ∀ y ∈ ys, y.name ≠ k) (w0 : World) (hfs : List PH) (hm : Mod hfs (rfC b A c ys) w0) :
    Calls Try.prog 22 #[.pointer (some ⟨b, 0, none⟩), .string k] w0 fun e w' => ∃ v Rs', e = .returned v ∧ (v = .int .i64 4 ∧ Rs' = rfC b A c ys) ∧ Mod hfs Rs' w' ∧ Oth w0 w' := by
  refine enterN (tab := tab) Try.func22 rfl Try.ntmps22 rfl (args := [_, _]) rfl hm ?_
  refine VC_sound tabOk 100 ?_
  refine Go_ops rfl (OpTo_pcall (v := .int .i64 (-1)) rfl rfl rfl rfl rfl (by kernel_rfl) (fun w hm _ => fI_none hk ▸ r13_find b A c ys k hl w (hm.blk_at (i := 0) rfl) (hm.own_rd (i := 1) rfl)) ?_)
  refine VC_sound tabOk 100 ?_
  refine ⟨fun _ => ?_, fun h => by first | (simp at h; done) | (simp at h; omega) | (simp_all; done)⟩
  exact ⟨_, ⟨rfl, rfl⟩, fun _ _ h => h⟩
set_option maxHeartbeats 1000000 in
theorem r13_unregister_ok (b : Nat) (A : Option Addr) (c : Nat) (y1 y2 : List CurV) (y : CurV) (k : ByteArray) (hl : (y1 ++ y :: y2).length ≤ 1000) (hy : y.name = k) (hk : ∀ z ∈ y1, z.name ≠ k) (w0 : World) (hfs : List PH) (hm : Mod hfs (rfC b A c (y1 ++ y :: y2)) w0) :
    Calls Try.prog 22 #[.pointer (some ⟨b, 0, none⟩), .string k] w0 fun e w' => ∃ v Rs', e = .returned v ∧ (v = .int .i64 0 ∧ ∃ A' c', Rs' = rfC b A' c' (y1 ++ y2)) ∧ Mod hfs Rs' w' ∧ Oth w0 w' := by
  have hcap := hm.own_le (i := 1) rfl
  have hll : (y1 ++ y :: y2).length = y1.length + y2.length + 1 := by simp; omega
  refine enterN (tab := tab) Try.func22 rfl Try.ntmps22 rfl (args := [_, _]) rfl hm ?_
  refine VC_sound tabOk 100 ?_
  refine Go_ops rfl (OpTo_pcall (v := .int .i64 (y1.length : Int)) rfl rfl rfl rfl rfl (by kernel_rfl) (fun w hm _ => fI_split hy hk ▸ r13_find b A c (y1 ++ y :: y2) k hl w (hm.blk_at (i := 0) rfl) (hm.own_rd (i := 1) rfl)) ?_)
  refine VC_sound tabOk 100 ?_
  refine ⟨fun h => by first | (simp at h; done) | (simp at h; omega) | (simp_all; done), fun _ => ?_⟩
  (repeat (first | refine Or.inl ⟨rfl, rfl, ?_⟩ | refine Or.inl ⟨rfl, ?_⟩ | refine Or.inr ?_))
  refine ⟨⟨by omega, by omega⟩, ?_⟩
  refine Go_res (own encC 3 65 none 0 [] :: rfC b A c (y1 ++ y :: y2)) (fun w h => h.own_nil none) ?_
  show Go _ _ _ _
  refine Go_ops rfl (OpTo_append tabOk encC_is (xs := []) (ys := y1) (i := 0) rfl rfl rfl rfl rfl rfl rfl rfl rfl rfl (by simp) (fun w hm _ => by
    have := RdW.take_ encC_is (hm.own_rd (i := 2) rfl) y1.length
    rwa [List.take_left] at this) (by simp; omega) (by simp; omega) (fun A2 c2 => ?_))
  refine VC_sound tabOk 100 ?_
  (repeat (first | refine Or.inl ⟨rfl, rfl, ?_⟩ | refine Or.inl ⟨rfl, ?_⟩ | refine Or.inr ?_))
  refine ⟨_, wrap_i64 (n := (y1.length : Int) + 1) (by omega) (by omega), ?_⟩
  refine ⟨⟨by omega, by omega⟩, ?_⟩
  show Go _ _ _ _
  refine Go_ops rfl (OpTo_append tabOk encC_is (ys := y2) (i := 0) rfl rfl rfl rfl rfl rfl rfl rfl rfl (by simp) (by simp; omega) (fun w hm _ => by
    have := RdW.drop_ encC_is (hm.own_rd (i := 2) rfl) c (y1.length + 1) (by omega) hcap.1
    have e : (y1 ++ y :: y2).drop (y1.length + 1) = y2 := by simp
    rw [e] at this
    exact this) (by simp; omega) (by simp; omega) (fun A3 c3 => ?_))
  refine VC_sound tabOk 100 ?_
  (repeat (first | refine Or.inl ⟨rfl, rfl, ?_⟩ | refine Or.inl ⟨rfl, ?_⟩ | refine Or.inr ?_))
  refine ⟨_, ⟨rfl, A3, c3, rfl⟩, fun hfs w h => ?_⟩
  have h := h.sel [1, 0] rfl
  have e1 : [] ++ y1 ++ y2 = y1 ++ y2 := by simp
  have e2 : 0 + (y1.length : Int).toNat + ((y1 ++ y :: y2).length - ((y1.length : Int) + 1).toNat) = (y1 ++ y2).length := by simp; omega
  rw [e2] at h
  exact h

set_option maxHeartbeats 1000000 in
theorem r13_open_no (b : Nat) (A : Option Addr) (c : Nat) (ys : List CurV) (k : ByteArray) (next : Int) (hl : ys.length ≤ 1000) (hk : ∀ y ∈ ys, y.name ≠ k) (w0 : World) (hfs : List PH) (hm : Mod hfs (rfC b A c ys) w0) :
    Calls Try.prog 20 #[.pointer (some ⟨b, 0, none⟩), .string k, .int .i64 next] w0 fun e w' => ∃ v Rs', e = .returned v ∧ (v = .int .i64 4 ∧ Rs' = rfC b A c ys) ∧ Mod hfs Rs' w' ∧ Oth w0 w' := by
  refine enterN (tab := tab) Try.func20 rfl Try.ntmps20 rfl (args := [_, _, _]) rfl hm ?_
  refine VC_sound tabOk 100 ?_
  refine Go_ops rfl (OpTo_pcall (v := .int .i64 (-1)) rfl rfl rfl rfl rfl (by kernel_rfl) (fun w hm _ => fI_none hk ▸ r13_find b A c ys k hl w (hm.blk_at (i := 0) rfl) (hm.own_rd (i := 1) rfl)) ?_)
  refine VC_sound tabOk 100 ?_
  refine ⟨fun _ => ?_, fun h => by first | (simp at h; done) | (simp at h; omega) | (simp_all; done)⟩
  exact ⟨_, ⟨rfl, rfl⟩, fun _ _ h => h⟩
set_option maxHeartbeats 2000000 in
theorem r13_open (b : Nat) (A : Option Addr) (c : Nat) (y1 y2 : List CurV) (y : CurV) (k : ByteArray) (next : Int) (hl : (y1 ++ y :: y2).length ≤ 1000) (hy : y.name = k) (hk : ∀ z ∈ y1, z.name ≠ k) (w0 : World) (hfs : List PH) (hm : Mod hfs (rfC b A c (y1 ++ y :: y2)) w0) :
    Calls Try.prog 20 #[.pointer (some ⟨b, 0, none⟩), .string k, .int .i64 next] w0 fun e w' => ∃ v Rs', e = .returned v ∧ (v = .int .i64 (openE y next) ∧ ∃ A' c', Rs' = rfC b A' c' (y1 ++ (if openE y next = 0 then ⟨y.name, y.last, next⟩ else y) :: y2)) ∧ Mod hfs Rs' w' ∧ Oth w0 w' := by
  have hll : (y1 ++ y :: y2).length = y1.length + y2.length + 1 := by simp; omega
  have hgy : (y1 ++ y :: y2)[y1.length]? = some y := by rw [List.getElem?_append_right (Nat.le_refl _), Nat.sub_self]; rfl
  obtain ⟨ba, oa, rfl⟩ := hm.own_some (i := 1) rfl (by simp)
  refine enterN (tab := tab) Try.func20 rfl Try.ntmps20 rfl (args := [_, _, _]) rfl hm ?_
  refine VC_sound tabOk 100 ?_
  refine Go_ops rfl (OpTo_pcall (v := .int .i64 (y1.length : Int)) rfl rfl rfl rfl rfl (by kernel_rfl) (fun w hm _ => fI_split hy hk ▸ r13_find b _ c (y1 ++ y :: y2) k hl w (hm.blk_at (i := 0) rfl) (hm.own_rd (i := 1) rfl)) ?_)
  refine VC_sound tabOk 100 ?_
  refine ⟨fun h => by first | (simp at h; done) | (simp at h; omega) | (simp_all; done), fun _ => ?_⟩
  (repeat (first | refine Or.inl ⟨rfl, rfl, ?_⟩ | refine Or.inl ⟨rfl, ?_⟩ | refine Or.inr ?_))
  refine ⟨⟨by omega, by omega⟩, ?_⟩
  (repeat (first | refine Or.inl ⟨rfl, rfl, ?_⟩ | refine Or.inl ⟨rfl, ?_⟩ | refine Or.inr ?_))
  refine Go_ops rfl (OpTo_loadPart tabOk encC_is (n := y1.length) (j := 2) (.int .i64 y.opn) rfl rfl rfl (fun w hm _ => hm.own_rd (i := 1) rfl) hgy rfl (by simp only [addA]; rfl) ?_)
  refine VC_sound tabOk 100 ?_
  refine ⟨fun h1 => ?_, fun h1 => ?_⟩
  · have e : openE y next = 7 := by rw [openE, if_pos (by simpa using h1)]
    rw [e]
    exact ⟨_, ⟨rfl, _, c, rfl⟩, fun _ _ h => h⟩
  (repeat (first | refine Or.inl ⟨rfl, rfl, ?_⟩ | refine Or.inl ⟨rfl, ?_⟩ | refine Or.inr ?_))
  refine ⟨⟨by omega, by omega⟩, ?_⟩
  (repeat (first | refine Or.inl ⟨rfl, rfl, ?_⟩ | refine Or.inl ⟨rfl, ?_⟩ | refine Or.inr ?_))
  refine Go_ops rfl (OpTo_loadPart tabOk encC_is (n := y1.length) (j := 1) (.int .i64 y.last) rfl rfl rfl (fun w hm _ => hm.own_rd (i := 1) rfl) hgy rfl (by simp only [addA]; rfl) ?_)
  refine VC_sound tabOk 100 ?_
  refine ⟨fun h2 => ?_, fun h2 => ?_⟩
  · have e : openE y next = 1 := by rw [openE, if_neg (by simpa using h1), if_pos (by simpa using h2)]
    rw [e]
    exact ⟨_, ⟨rfl, _, c, rfl⟩, fun _ _ h => h⟩
  have e : openE y next = 0 := by rw [openE, if_neg (by simpa using h1), if_neg (by simpa using h2)]
  rw [e]
  (repeat (first | refine Or.inl ⟨rfl, rfl, ?_⟩ | refine Or.inl ⟨rfl, ?_⟩ | refine Or.inr ?_))
  refine ⟨⟨by omega, by omega⟩, ?_⟩
  (repeat (first | refine Or.inl ⟨rfl, rfl, ?_⟩ | refine Or.inl ⟨rfl, ?_⟩ | refine Or.inr ?_))
  refine Go_ops rfl (OpTo_loadPart tabOk encC_is (n := y1.length) (j := 1) (.int .i64 y.last) rfl rfl rfl (fun w hm _ => hm.own_rd (i := 1) rfl) hgy rfl (by simp only [addA]; rfl) ?_)
  refine VC_sound tabOk 100 ?_
  show Go _ _ _ _
  refine Go_ops rfl (OpTo_mcall (rfC b (some ⟨ba, oa, none⟩) c (y1 ++ y :: y2)) [] (List.Perm.of_eq (by simp)) rfl rfl rfl rfl rfl (by kernel_rfl) (fun w hb hm hio hsp g => r13_set b _ c y1 y2 y ⟨k, y.last, next⟩ hl w _ g) ?_)
  rintro _ _ ⟨rfl, A2, c2, rfl⟩
  refine VC_sound tabOk 100 ?_
  exact ⟨_, ⟨rfl, A2, c2, by rw [hy]; rfl⟩, fun _ _ h => h.permRs (List.Perm.of_eq (List.append_nil _))⟩

set_option maxHeartbeats 1000000 in
theorem r13_finish_no (b : Nat) (A : Option Addr) (c : Nat) (ys : List CurV) (k : ByteArray) (hl : ys.length ≤ 1000) (hk : ∀ y ∈ ys, y.name ≠ k) (w0 : World) (hfs : List PH) (hm : Mod hfs (rfC b A c ys) w0) :
    Calls Try.prog 21 #[.pointer (some ⟨b, 0, none⟩), .string k] w0 fun e w' => ∃ v Rs', e = .returned v ∧ (v = .tuple #[.int .i64 0, .int .i64 4] ∧ Rs' = rfC b A c ys) ∧ Mod hfs Rs' w' ∧ Oth w0 w' := by
  refine enterN (tab := tab) Try.func21 rfl Try.ntmps21 rfl (args := [_, _]) rfl hm ?_
  refine VC_sound tabOk 100 ?_
  refine Go_ops rfl (OpTo_pcall (v := .int .i64 (-1)) rfl rfl rfl rfl rfl (by kernel_rfl) (fun w hm _ => fI_none hk ▸ r13_find b A c ys k hl w (hm.blk_at (i := 0) rfl) (hm.own_rd (i := 1) rfl)) ?_)
  refine VC_sound tabOk 100 ?_
  refine ⟨fun _ => ?_, fun h => by first | (simp at h; done) | (simp at h; omega) | (simp_all; done)⟩
  exact ⟨_, ⟨rfl, rfl⟩, fun _ _ h => h⟩
set_option maxHeartbeats 2000000 in
theorem r13_finish (b : Nat) (A : Option Addr) (c : Nat) (y1 y2 : List CurV) (y : CurV) (k : ByteArray) (hl : (y1 ++ y :: y2).length ≤ 1000) (hy : y.name = k) (hk : ∀ z ∈ y1, z.name ≠ k) (w0 : World) (hfs : List PH) (hm : Mod hfs (rfC b A c (y1 ++ y :: y2)) w0) :
    Calls Try.prog 21 #[.pointer (some ⟨b, 0, none⟩), .string k] w0 fun e w' => ∃ v Rs', e = .returned v ∧ (v = (if y.opn = 0 then .tuple #[.int .i64 0, .int .i64 7] else .tuple #[.int .i64 y.opn, .int .i64 0]) ∧ ∃ A' c', Rs' = rfC b A' c' (y1 ++ (if y.opn = 0 then y else ⟨y.name, y.opn, 0⟩) :: y2)) ∧ Mod hfs Rs' w' ∧ Oth w0 w' := by
  have hll : (y1 ++ y :: y2).length = y1.length + y2.length + 1 := by simp; omega
  have hgy : (y1 ++ y :: y2)[y1.length]? = some y := by rw [List.getElem?_append_right (Nat.le_refl _), Nat.sub_self]; rfl
  obtain ⟨ba, oa, rfl⟩ := hm.own_some (i := 1) rfl (by simp)
  refine enterN (tab := tab) Try.func21 rfl Try.ntmps21 rfl (args := [_, _]) rfl hm ?_
  refine VC_sound tabOk 100 ?_
  refine Go_ops rfl (OpTo_pcall (v := .int .i64 (y1.length : Int)) rfl rfl rfl rfl rfl (by kernel_rfl) (fun w hm _ => fI_split hy hk ▸ r13_find b _ c (y1 ++ y :: y2) k hl w (hm.blk_at (i := 0) rfl) (hm.own_rd (i := 1) rfl)) ?_)
  refine VC_sound tabOk 100 ?_
  refine ⟨fun h => by first | (simp at h; done) | (simp at h; omega) | (simp_all; done), fun _ => ?_⟩
  (repeat (first | refine Or.inl ⟨rfl, rfl, ?_⟩ | refine Or.inl ⟨rfl, ?_⟩ | refine Or.inr ?_))
  refine ⟨⟨by omega, by omega⟩, ?_⟩
  (repeat (first | refine Or.inl ⟨rfl, rfl, ?_⟩ | refine Or.inl ⟨rfl, ?_⟩ | refine Or.inr ?_))
  refine Go_ops rfl (OpTo_loadPart tabOk encC_is (n := y1.length) (j := 2) (.int .i64 y.opn) rfl rfl rfl (fun w hm _ => hm.own_rd (i := 1) rfl) hgy rfl (by simp only [addA]; rfl) ?_)
  refine VC_sound tabOk 100 ?_
  refine ⟨fun h1 => ?_, fun h1 => ?_⟩
  · have e : y.opn = 0 := by simpa using h1
    rw [if_pos e, if_pos e]
    exact ⟨_, ⟨rfl, _, c, rfl⟩, fun _ _ h => h⟩
  have e : ¬ y.opn = 0 := by simpa using h1
  rw [if_neg e, if_neg e]
  (repeat (first | refine Or.inl ⟨rfl, rfl, ?_⟩ | refine Or.inl ⟨rfl, ?_⟩ | refine Or.inr ?_))
  refine ⟨⟨by omega, by omega⟩, ?_⟩
  (repeat (first | refine Or.inl ⟨rfl, rfl, ?_⟩ | refine Or.inl ⟨rfl, ?_⟩ | refine Or.inr ?_))
  refine Go_ops rfl (OpTo_loadPart tabOk encC_is (n := y1.length) (j := 2) (.int .i64 y.opn) rfl rfl rfl (fun w hm _ => hm.own_rd (i := 1) rfl) hgy rfl (by simp only [addA]; rfl) ?_)
  refine VC_sound tabOk 100 ?_
  show Go _ _ _ _
  refine Go_ops rfl (OpTo_mcall (rfC b (some ⟨ba, oa, none⟩) c (y1 ++ y :: y2)) [] (List.Perm.of_eq (by simp)) rfl rfl rfl rfl rfl (by kernel_rfl) (fun w hb hm hio hsp g => r13_set b _ c y1 y2 y ⟨k, y.opn, 0⟩ hl w _ g) ?_)
  rintro _ _ ⟨rfl, A2, c2, rfl⟩
  refine VC_sound tabOk 100 ?_
  exact ⟨_, ⟨rfl, A2, c2, by rw [hy]⟩, fun _ _ h => h.permRs (List.Perm.of_eq (List.append_nil _))⟩

theorem minL_step (l : List CurV) (z : CurV) : minL (l ++ [z]) = if l = [] then z.last else if z.last < minL l then z.last else minL l := by
  cases l with
  | nil => simp [minL, minF]
  | cons y r => simp only [List.cons_append, minL, List.cons_ne_nil, if_false, List.foldl_cons, List.foldl_append, List.foldl_nil]; rfl

set_option maxHeartbeats 2000000 in
theorem r13_least (b : Nat) (A : Option Addr) (c : Nat) (ys : List CurV) (hl : ys.length ≤ 1000) (w0 : World) (hfs : List PH) (hm : Mod hfs (rfC b A c ys) w0) :
    Calls Try.prog 29 #[.pointer (some ⟨b, 0, none⟩)] w0 fun e w' => ∃ v Rs', e = .returned v ∧ (v = leastT ys ∧ Rs' = rfC b A c ys) ∧ Mod hfs Rs' w' ∧ Oth w0 w' := by
  have hA : ys ≠ [] → ∃ b o, A = some ⟨b, o, none⟩ := fun h => hm.own_some (i := 1) rfl h
  refine enterN (tab := tab) Try.func29 rfl Try.ntmps29 rfl (args := [_]) rfl hm ?_
  refine VC_sound tabOk 100 ?_
  refine Go_loop (σ := Nat) (fun i => [(0, .v (.pointer (some ⟨b, 0, none⟩))), (4, .v (.int .i64 (minL (ys.take i)))), (5, .v (.int .i64 i))]) (fun _ => rfC b A c ys) (fun i => i ≤ ys.length) (fun i => ys.length - i) 0 (Nat.zero_le _) ⟨rfl, rfl, rfl, trivial⟩ (fun _ h => h) ?_
  intro i hi
  dsimp only at hi ⊢
  refine VC_sound tabOk 100 ?_
  (repeat (first | refine Or.inl ⟨rfl, rfl, ?_⟩ | refine Or.inl ⟨rfl, ?_⟩ | refine Or.inr ?_))
  by_cases hlt : i < ys.length
  · obtain ⟨ba, oa, rfl⟩ := hA (ne_nil_of_lt hlt)
    obtain ⟨z, hgz⟩ : ∃ z, ys[i]? = some z := ⟨_, List.getElem?_eq_getElem hlt⟩
    have hstep : minL (ys.take (i + 1)) = if i = 0 then z.last else if z.last < minL (ys.take i) then z.last else minL (ys.take i) := by
      rw [List.take_add_one, hgz, Option.toList_some, minL_step]
      have : ys.take i = [] ↔ i = 0 := by
        rw [← List.length_eq_zero_iff, List.length_take]; omega
      simp only [this]
    refine ⟨fun _ => ?_, fun h => by first | (simp at h; done) | (simp at h; omega) | (simp_all; done)⟩
    refine ⟨fun h0 => ?_, fun h0 => ?_⟩
    · have h0' : i = 0 := by have := of_decide_eq_true h0; omega
      (repeat (first | refine Or.inl ⟨rfl, rfl, ?_⟩ | refine Or.inl ⟨rfl, ?_⟩ | refine Or.inr ?_))
      refine ⟨⟨by omega, by omega⟩, ?_⟩
      (repeat (first | refine Or.inl ⟨rfl, rfl, ?_⟩ | refine Or.inl ⟨rfl, ?_⟩ | refine Or.inr ?_))
      refine Go_ops rfl (OpTo_loadPart tabOk encC_is (n := i) (j := 1) (.int .i64 z.last) rfl rfl rfl (fun w hm _ => hm.own_rd (i := 1) rfl) hgz rfl (by simp only [addA]; rfl) ?_)
      refine VC_sound tabOk 100 ?_
      refine ⟨_, wrap_i64 (n := (i : Int) + 1) (by omega) (by omega), ?_⟩
      exact Go_fin (i + 1) (by omega) (by omega) ⟨rfl, congrArg (Value.int .i64) (by rw [hstep, if_pos h0']), rfl, trivial⟩ (fun _ h => h)
    · have h0' : ¬ i = 0 := by have := of_decide_eq_false h0; omega
      (repeat (first | refine Or.inl ⟨rfl, rfl, ?_⟩ | refine Or.inl ⟨rfl, ?_⟩ | refine Or.inr ?_))
      refine ⟨⟨by omega, by omega⟩, ?_⟩
      (repeat (first | refine Or.inl ⟨rfl, rfl, ?_⟩ | refine Or.inl ⟨rfl, ?_⟩ | refine Or.inr ?_))
      refine Go_ops rfl (OpTo_loadPart tabOk encC_is (n := i) (j := 1) (.int .i64 z.last) rfl rfl rfl (fun w hm _ => hm.own_rd (i := 1) rfl) hgz rfl (by simp only [addA]; rfl) ?_)
      refine VC_sound tabOk 100 ?_
      refine ⟨fun h1 => ?_, fun h1 => ?_⟩
      · (repeat (first | refine Or.inl ⟨rfl, rfl, ?_⟩ | refine Or.inl ⟨rfl, ?_⟩ | refine Or.inr ?_))
        refine ⟨⟨by omega, by omega⟩, ?_⟩
        (repeat (first | refine Or.inl ⟨rfl, rfl, ?_⟩ | refine Or.inl ⟨rfl, ?_⟩ | refine Or.inr ?_))
        refine Go_ops rfl (OpTo_loadPart tabOk encC_is (n := i) (j := 1) (.int .i64 z.last) rfl rfl rfl (fun w hm _ => hm.own_rd (i := 1) rfl) hgz rfl (by simp only [addA]; rfl) ?_)
        refine VC_sound tabOk 100 ?_
        refine ⟨_, wrap_i64 (n := (i : Int) + 1) (by omega) (by omega), ?_⟩
        exact Go_fin (i + 1) (by omega) (by omega) ⟨rfl, congrArg (Value.int .i64) (by rw [hstep, if_neg h0', if_pos (of_decide_eq_true h1)]), rfl, trivial⟩ (fun _ h => h)
      · refine ⟨_, wrap_i64 (n := (i : Int) + 1) (by omega) (by omega), ?_⟩
        exact Go_fin (i + 1) (by omega) (by omega) ⟨rfl, congrArg (Value.int .i64) (by rw [hstep, if_neg h0', if_neg (of_decide_eq_false h1)]), rfl, trivial⟩ (fun _ h => h)
  have he : i = ys.length := by omega
  subst he
  rw [List.take_length]
  refine ⟨fun h => by first | (simp at h; done) | (simp at h; omega) | (simp_all; done), fun _ => ?_⟩
  show Go _ _ _ _
  refine Go_any mixed [] [(0, false), (1, false), (2, false), (3, false), (7, false), (4, false), (5, false), (6, false), (8, false)] rfl (by kernel_rfl) (by kernel_rfl) [.blk b 46 [.slice A ys.length c]] (fun _ => True) (fun _ _ _ h => h) (fun w hm _ => ⟨Holds.of_idx [0] hm, trivial⟩) ?_
  refine VC_sound tabOk 100 ?_
  (repeat (first | refine Or.inl ⟨rfl, rfl, ?_⟩ | refine Or.inl ⟨rfl, ?_⟩ | refine Or.inr ?_))
  exact ⟨_, ⟨by simp [leastT]; rfl, rfl⟩, fun _ _ h => h⟩
end Go.Proofs.Ytmlaaddkdemmlaa
