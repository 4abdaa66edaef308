/- Items that come again, in order: their keys; what the function that compares them answers. -/
import Derived.Test.YthpcahgdobnljaaGreatSortK
import Derived.Test.YthpcahgdobnljaaGreatEvent
set_option maxRecDepth 100000
set_option autoImplicit false
set_option linter.unusedVariables false
set_option linter.unusedSimpArgs false
namespace Go.Proofs.YthpcahgdobnljaaGreat.Rt
open Go.RX Go Go.RowKit


structure ItemM where
  at_ : Int
  ev : EventM
instance : Inhabited ItemM := ⟨⟨0, zeroE⟩⟩
def encT : ItemM → List Value := fun x => .int .i64 x.at_ :: encE x.ev
theorem encT_is : IsEnc encT 9 := ⟨fun _ => rfl, fun x v hv => by simp [encT, encE] at hv; rcases hv with rfl | rfl | rfl | rfl | rfl | rfl | rfl | rfl | rfl <;> rfl, by decide⟩
abbrev mkT (x : ItemM) : Value := .agg #[.int .i64 x.at_, .int .i64 x.ev.id, .int .i64 x.ev.tx, .string x.ev.owner, .int .i64 x.ev.tries, .int .i64 x.ev.table, .int .u8 x.ev.kind, .int .i64 x.ev.key, .string x.ev.text]

/-! ### the order -/
abbrev KeyT := Int × Int × ByteArray
def keyT (x : ItemM) : KeyT := (x.at_, x.ev.id, x.ev.owner)
def ltT (a b : KeyT) : Bool := if a.1 = b.1 then (if a.2.1 = b.2.1 then ltS a.2.2 b.2.2 else decide (a.2.1 < b.2.1)) else decide (a.1 < b.1)
theorem ordT : Ord ltT := by
  refine ⟨fun a => by simp [ltT, ordS.irr], fun a b c h1 h2 => ?_, fun a b h1 h2 => ?_⟩
  · obtain ⟨a1, a2, a3⟩ := a
    obtain ⟨b1, b2, b3⟩ := b
    obtain ⟨c1, c2, c3⟩ := c
    simp only [ltT] at h1 h2 ⊢
    by_cases e1 : a1 = b1
    · rw [if_pos e1] at h1
      subst e1
      by_cases e2 : a1 = c1
      · rw [if_pos e2] at h2 ⊢
        by_cases f1 : a2 = b2
        · rw [if_pos f1] at h1
          subst f1
          by_cases f2 : a2 = c2
          · rw [if_pos f2] at h2 ⊢
            exact ordS.trans _ _ _ h1 h2
          · rw [if_neg f2] at h2 ⊢; exact h2
        · rw [if_neg f1] at h1
          have h1' := of_decide_eq_true h1
          by_cases f2 : b2 = c2
          · subst f2
            rw [if_neg f1]; exact h1
          · rw [if_neg f2] at h2
            have h2' := of_decide_eq_true h2
            rw [if_neg (by omega)]
            exact decide_eq_true (by omega)
      · rw [if_neg e2] at h2 ⊢; exact h2
    · rw [if_neg e1] at h1
      have h1' := of_decide_eq_true h1
      by_cases e2 : b1 = c1
      · subst e2
        rw [if_neg e1]; exact h1
      · rw [if_neg e2] at h2
        have h2' := of_decide_eq_true h2
        rw [if_neg (by omega)]
        exact decide_eq_true (by omega)
  · obtain ⟨a1, a2, a3⟩ := a
    obtain ⟨b1, b2, b3⟩ := b
    simp only [ltT] at h1 h2
    by_cases e1 : a1 = b1
    · subst e1
      rw [if_pos rfl] at h1 h2
      by_cases f1 : a2 = b2
      · subst f1
        rw [if_pos rfl] at h1 h2
        rw [ordS.tri _ _ h1 h2]
      · rw [if_neg f1] at h1
        rw [if_neg (Ne.symm f1)] at h2
        simp at h1 h2; omega
    · rw [if_neg e1] at h1
      rw [if_neg (Ne.symm e1)] at h2
      simp at h1 h2; omega

theorem gtS (x y : ByteArray) : (!(Op.bytesLess x.toList y.toList || x.toList == y.toList)) = ltS y x := by
  have e : Op.bytesLess x.toList y.toList = ltS x y := rfl
  rw [e]
  cases h1 : ltS x y with
  | true => rw [ordS.asym h1]; rfl
  | false =>
    cases h2 : ltS y x with
    | true =>
      have : ¬ (x.toList == y.toList) = true := fun h => by
        have := toList_inj (by simpa using h)
        subst this
        rw [ordS.irr] at h2; cases h2
      simp [this]
    | false =>
      have := ordS.tri _ _ h1 h2
      subst this
      simp


/-- What cmp.Compare answers. -/
def cmpI (x y : Int) : Int := if ltI x y = true then -1 else if ltI y x = true then 1 else 0
theorem cmpI_lt (x y : Int) : decide (cmpI x y < 0) = ltI x y := by
  by_cases h : ltI x y = true
  · simp [cmpI, h]
  · by_cases h2 : ltI y x = true
    · simp [cmpI, h, h2]
    · simp [cmpI, h, h2]
theorem cmp_nan_I (x : Int) (w0 : World) : Calls Tryz.prog 150 #[Value.int .i64 x] w0 fun e w' => e = .returned (.bool false) ∧ BelowD w0.heap.size w0 w' := by
  refine enterP (tab := tab) Tryz.func150 rfl Tryz.ntmps150 rfl (args := [_]) rfl ?_
  refine VC_sound tabOk 100 ?_
  exact congrArg Value.bool (by simp)
theorem cmp_compare_I (x y : Int) (w0 : World) : Calls Tryz.prog 95 #[Value.int .i64 x, Value.int .i64 y] w0 fun e w' => e = .returned (.int .i64 (cmpI x y)) ∧ BelowD w0.heap.size w0 w' := by
  refine enterP (tab := tab) Tryz.func95 rfl Tryz.ntmps95 rfl (args := [_, _]) rfl ?_
  refine VC_sound tabOk 100 ?_
  refine Go_ops rfl (OpTo_pcall (v := .bool false) rfl rfl rfl rfl rfl (by kernel_rfl) (fun w hm _ => cmp_nan_I x w) ?_)
  refine VC_sound tabOk 100 ?_
  refine Go_ops rfl (OpTo_pcall (v := .bool false) rfl rfl rfl rfl rfl (by kernel_rfl) (fun w hm _ => cmp_nan_I y w) ?_)
  refine VC_sound tabOk 100 ?_
  refine ⟨fun h => by simp at h, fun _ => ?_⟩
  refine ⟨fun h => by simp at h, fun _ => ?_⟩
  refine ⟨fun h => ?_, fun h => ?_⟩
  · exact congrArg (Value.int .i64) (if_pos (by simpa [ltI] using h)).symm
  · refine ⟨fun h2 => ?_, fun h2 => ?_⟩
    · exact congrArg (Value.int .i64) (by rw [cmpI, if_neg (by simpa [ltI] using h), if_pos (by simpa [ltI] using h2)])
    · exact congrArg (Value.int .i64) (by rw [cmpI, if_neg (by simpa [ltI] using h), if_neg (by simpa [ltI] using h2)])


/-- What cmp.Compare answers. -/
def cmpS (x y : ByteArray) : Int := if ltS x y = true then -1 else if ltS y x = true then 1 else 0
theorem cmpS_lt (x y : ByteArray) : decide (cmpS x y < 0) = ltS x y := by
  by_cases h : ltS x y = true
  · simp [cmpS, h]
  · by_cases h2 : ltS y x = true
    · simp [cmpS, h, h2]
    · simp [cmpS, h, h2]
theorem cmp_nan_S (x : ByteArray) (w0 : World) : Calls Tryz.prog 187 #[Value.string x] w0 fun e w' => e = .returned (.bool false) ∧ BelowD w0.heap.size w0 w' := by
  refine enterP (tab := tab) Tryz.func187 rfl Tryz.ntmps187 rfl (args := [_]) rfl ?_
  refine VC_sound tabOk 100 ?_
  exact congrArg Value.bool (by simp)
theorem cmp_compare_S (x y : ByteArray) (w0 : World) : Calls Tryz.prog 161 #[Value.string x, Value.string y] w0 fun e w' => e = .returned (.int .i64 (cmpS x y)) ∧ BelowD w0.heap.size w0 w' := by
  refine enterP (tab := tab) Tryz.func161 rfl Tryz.ntmps161 rfl (args := [_, _]) rfl ?_
  refine VC_sound tabOk 100 ?_
  refine Go_ops rfl (OpTo_pcall (v := .bool false) rfl rfl rfl rfl rfl (by kernel_rfl) (fun w hm _ => cmp_nan_S x w) ?_)
  refine VC_sound tabOk 100 ?_
  refine Go_ops rfl (OpTo_pcall (v := .bool false) rfl rfl rfl rfl rfl (by kernel_rfl) (fun w hm _ => cmp_nan_S y w) ?_)
  refine VC_sound tabOk 100 ?_
  refine ⟨fun h => by simp at h, fun _ => ?_⟩
  refine ⟨fun h => by simp at h, fun _ => ?_⟩
  refine ⟨fun h => ?_, fun h => ?_⟩
  · exact congrArg (Value.int .i64) (if_pos (by simpa [ltS] using h)).symm
  · refine ⟨fun h2 => ?_, fun h2 => ?_⟩
    · exact congrArg (Value.int .i64) (by rw [cmpS, if_neg (by simpa [ltS] using h), if_pos (by rw [gtS] at h2; simpa using h2)])
    · exact congrArg (Value.int .i64) (by rw [cmpS, if_neg (by simpa [ltS] using h), if_neg (by rw [gtS] at h2; simpa using h2)])


/-! ### the first that isn't zero -/
def orL : List Int → Int
  | [] => 0
  | z :: r => if z = 0 then orL r else z
theorem orL_skip : ∀ (zs : List Int) (i : Nat), (∀ j (h : j < zs.length), j < i → zs[j] = 0) → orL zs = orL (zs.drop i)
  | [], i, _ => by simp
  | z :: r, 0, _ => rfl
  | z :: r, i + 1, h => by
    have h0 : z = 0 := h 0 (by simp) (by omega)
    rw [orL, if_pos h0, List.drop_succ_cons]
    exact orL_skip r i fun j hj hi => h (j + 1) (by simpa using hj) (by omega)

theorem cmp_or (A : Option Addr) (c : Nat) (zs : List Int) (w0 : World) (hr : RdW w0 A (zs.flatMap (RX.encI .i64))) (hl : zs.length ≤ 1000) :
    Calls Tryz.prog 160 #[.slice A zs.length c] w0 fun e w' => e = .returned (.int .i64 (orL zs)) ∧ BelowD w0.heap.size w0 w' := by
  refine enterP (tab := tab) Tryz.func160 rfl Tryz.ntmps160 rfl (args := [_]) rfl ?_
  refine VC_sound tabOk 100 ?_
  refine Go_loop (σ := Nat) (fun i => [(3, .v (.int .i64 0)), (6, .v (.slice A zs.length c)), (7, .v (.int .i64 zs.length)), (8, .v (.int .i64 i))]) (fun _ => []) (fun i => i ≤ zs.length ∧ ∀ j (h : j < zs.length), j < i → zs[j] = 0) (fun i => zs.length - i) 0 ⟨Nat.zero_le _, fun _ _ h => by omega⟩ ⟨rfl, rfl, rfl, rfl, trivial⟩ (fun _ h => h) ?_
  rintro i ⟨hi, hz⟩
  dsimp only at hi hz ⊢
  by_cases hlt : i < zs.length
  · obtain ⟨b, o, rfl⟩ := RdW.some (RX.encI_is .i64) hr (ne_nil_of_lt hlt)
    have hsk := orL_skip zs i hz
    rw [List.drop_eq_getElem_cons hlt, orL] at hsk
    refine VC_sound tabOk 100 ?_
    refine ⟨fun _ => ?_, fun h => by first | (simp at h; done) | (simp at h; omega) | (simp_all; done)⟩
    refine ⟨⟨by omega, by omega⟩, ?_⟩
    refine Go_ops rfl (OpTo_loadRow tabOk (RX.encI_is .i64) (.int .i64 zs[i]) rfl rfl rfl rfl rfl (fun h => rfl) (fun w hm _ => hr.mod hm) (List.getElem?_eq_getElem hlt) (by simp only [addA]; rfl) ?_)
    refine VC_sound tabOk 100 ?_
    refine ⟨fun h => ?_, fun h => ?_⟩
    · have h' : ¬ zs[i] = 0 := by simpa using h
      rw [if_neg h'] at hsk
      exact congrArg (Value.int .i64) hsk.symm
    · have h' : zs[i] = 0 := by simpa using h
      refine ⟨_, wrap_i64 (n := (i : Int) + 1) (by omega) (by omega), ?_⟩
      refine Go_fin (i + 1) ⟨by omega, fun j hj hi' => ?_⟩ (by omega) ⟨rfl, rfl, rfl, rfl, trivial⟩ (fun _ h => h)
      by_cases e : j = i
      · subst e; exact h'
      · exact hz j hj (by omega)
  refine VC_sound tabOk 100 ?_
  refine ⟨fun h => by first | (simp at h; done) | (simp at h; omega) | (simp_all; done), fun _ => ?_⟩
  refine congrArg (Value.int .i64) ?_
  rw [orL_skip zs i hz, List.drop_of_length_le (by omega)]; rfl

def cmpT (x y : ItemM) : Int := orL [cmpI x.at_ y.at_, cmpI x.ev.id y.ev.id, cmpS x.ev.owner y.ev.owner]
theorem cmpI_zero {x y : Int} : cmpI x y = 0 ↔ x = y := by
  unfold cmpI
  constructor
  · intro h
    by_cases h1 : ltI x y = true
    · rw [if_pos h1] at h; omega
    · rw [if_neg h1] at h
      by_cases h2 : ltI y x = true
      · rw [if_pos h2] at h; omega
      · exact ordI.tri _ _ (by simpa using h1) (by simpa using h2)
  · rintro rfl; simp [ordI.irr]
theorem keyT_lt (x y : ItemM) : ltT (keyT x) (keyT y) = if x.at_ = y.at_ then (if x.ev.id = y.ev.id then ltS x.ev.owner y.ev.owner else decide (x.ev.id < y.ev.id)) else decide (x.at_ < y.at_) := rfl
theorem cmpT_ok : Cmps ltT keyT cmpT := fun x y => by
  by_cases h1 : x.at_ = y.at_
  · by_cases h2 : x.ev.id = y.ev.id
    · have e : cmpT x y = cmpS x.ev.owner y.ev.owner := by
        simp only [cmpT, orL]
        rw [if_pos (cmpI_zero.2 h1), if_pos (cmpI_zero.2 h2)]
        split
        · rename_i h; exact h.symm
        · rfl
      have e2 : ltT (keyT x) (keyT y) = ltS x.ev.owner y.ev.owner := by
        rw [keyT_lt, if_pos h1, if_pos h2]
      rw [e, e2, cmpS_lt]
    · have e : cmpT x y = cmpI x.ev.id y.ev.id := by
        simp only [cmpT, orL]
        rw [if_pos (cmpI_zero.2 h1), if_neg (fun h => h2 (cmpI_zero.1 h))]
      have e2 : ltT (keyT x) (keyT y) = ltI x.ev.id y.ev.id := by
        rw [keyT_lt, if_pos h1, if_neg h2]; rfl
      rw [e, e2, cmpI_lt]
  · have e : cmpT x y = cmpI x.at_ y.at_ := by
      simp only [cmpT, orL]
      rw [if_neg (fun h => h1 (cmpI_zero.1 h))]
    have e2 : ltT (keyT x) (keyT y) = ltI x.at_ y.at_ := by
      rw [keyT_lt, if_neg h1]; rfl
    rw [e, e2, cmpI_lt]

set_option maxHeartbeats 2000000 in
theorem retry_addC : AnsC Tryz.prog 159 #[] #[] (fun x => .agg (encT x).toArray) cmpT := fun x y w0 => by
  show Calls Tryz.prog 159 #[mkT x, mkT y] w0 _
  refine enterP (tab := tab) Tryz.func159 rfl Tryz.ntmps159 rfl (args := [_, _]) rfl ?_
  refine VC_sound tabOk 100 ?_
  intro b2 _
  intro b3 _
  show Go _ _ _ _
  refine Go_any mixed [] [(0, false), (2, false), (5, false), (6, false), (8, false), (9, false), (12, false), (13, false), (15, false), (16, false), (1, false), (3, false), (7, false), (10, false), (14, false), (17, false), (4, true), (11, true), (18, true), (19, true), (20, true), (21, false)] rfl (by kernel_rfl) (by kernel_rfl) [.blk b3 182 (encT y), .blk b2 182 (encT x)] (fun _ => True) (fun _ _ _ h => h) (fun w hm _ => ⟨Holds.of_idx [0, 1] hm, trivial⟩) ?_
  refine VC_sound tabOk 100 ?_
  (repeat (first | refine Or.inl ⟨rfl, rfl, ?_⟩ | refine Or.inl ⟨rfl, ?_⟩ | refine Or.inr ?_))
  refine Go_aloneL rfl rfl (OpTo_pcall (v := .int .i64 (cmpI x.at_ y.at_)) rfl rfl rfl rfl rfl (by kernel_rfl) (fun w hm _ => cmp_compare_I x.at_ y.at_ w) ?_)
  refine And.intro (fun w hm _ => ⟨Holds.of_idx [0, 1] hm, trivial⟩) ?_
  refine VC_sound tabOk 100 ?_
  (repeat (first | refine Or.inl ⟨rfl, rfl, ?_⟩ | refine Or.inl ⟨rfl, ?_⟩ | refine Or.inr ?_))
  refine Go_aloneL rfl rfl (OpTo_pcall (v := .int .i64 (cmpI x.ev.id y.ev.id)) rfl rfl rfl rfl rfl (by kernel_rfl) (fun w hm _ => cmp_compare_I x.ev.id y.ev.id w) ?_)
  refine And.intro (fun w hm _ => ⟨Holds.of_idx [0, 1] hm, trivial⟩) ?_
  refine VC_sound tabOk 100 ?_
  (repeat (first | refine Or.inl ⟨rfl, rfl, ?_⟩ | refine Or.inl ⟨rfl, ?_⟩ | refine Or.inr ?_))
  refine Go_aloneL rfl rfl (OpTo_pcall (v := .int .i64 (cmpS x.ev.owner y.ev.owner)) rfl rfl rfl rfl rfl (by kernel_rfl) (fun w hm _ => cmp_compare_S x.ev.owner y.ev.owner w) ?_)
  refine And.intro (fun w hm _ => ⟨Holds.of_idx [0, 1] hm, trivial⟩) ?_
  refine VC_sound tabOk 100 ?_
  intro b24 _
  refine Go_aloneL rfl rfl (OpTo_pcall (v := .int .i64 (cmpT x y)) rfl rfl rfl rfl rfl (by kernel_rfl) (fun w hm _ => cmp_or (some ⟨b24, 0, none⟩) 3 [cmpI x.at_ y.at_, cmpI x.ev.id y.ev.id, cmpS x.ev.owner y.ev.owner] w (hm.blk_rd (i := 0) rfl) (by simp)) ?_)
  refine And.intro (fun w hm _ => ⟨Holds.of_idx [1, 2] hm, trivial⟩) ?_
  refine VC_sound tabOk 100 ?_
  rfl
end Go.Proofs.YthpcahgdobnljaaGreat.Rt
