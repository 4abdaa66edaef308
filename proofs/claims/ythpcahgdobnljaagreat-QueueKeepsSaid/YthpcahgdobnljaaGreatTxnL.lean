/- A manager and the reference's, alike: whatever begins, ends, is loaded. -/
import Derived.Test.YthpcahgdobnljaaGreatR06
set_option maxRecDepth 100000
set_option autoImplicit false
set_option linter.unusedVariables false
set_option linter.unusedSimpArgs false
namespace Go.Proofs.YthpcahgdobnljaaGreat
open Go.RX Go Go.RowKit


/-! ### plain -/
structure Alike (s : TxS) (R : List Int) : Prop where
  next : s.next = (R.length : Int) + 1
  O : s.O = pos 1 R
  D : ∀ x, x ∈ s.D ↔ x ∈ pos 2 R
  ok : okR R
theorem Alike.start : Alike ⟨1, [], []⟩ [] := ⟨rfl, rfl, fun x => Iff.rfl, fun _ h => by simp at h⟩
theorem Alike.state {s : TxS} {R : List Int} (h : Alike s R) (x : Int) : stE s x = rState R x := by
  rw [← stE_txOf h.ok]
  unfold stE
  simp only [h.next, h.O, h.D x]
theorem Alike.begin {s : TxS} {R : List Int} (h : Alike s R) : Alike (begS s) (R ++ [1]) := by
  refine ⟨?_, ?_, fun x => ?_, fun z hz => ?_⟩
  · simp only [begS, h.next, List.length_append, List.length_cons, List.length_nil]; omega
  · simp only [begS, h.O, h.next, pos_append]; rfl
  · simp only [begS, pos_append]
    rw [h.D x]; simp
  · rcases List.mem_append.1 hz with hz | hz
    · exact h.ok z hz
    · simp at hz; exact .inl hz
theorem Alike.notO {s : TxS} {R : List Int} (h : Alike s R) : ¬ s.next ∈ s.O := fun hh => by
  rw [h.O, h.next] at hh
  have := pos_mem.1 hh; omega
theorem rState_one {R : List Int} (x : Int) : rState R x = 1 ↔ x ∈ pos 1 R := by
  rw [pos_mem, rState]
  by_cases h0 : x < 1 ∨ (R.length : Int) < x
  · rw [if_pos h0]; constructor
    · intro h; omega
    · rintro ⟨h1, h2, _⟩; omega
  · rw [if_neg h0]
    have hl : (x - 1).toNat < R.length := by omega
    rw [List.getElem?_eq_getElem hl]
    simp; omega

theorem posF_set {k z : Int} (hz : z ≠ k) : ∀ (R : List Int) (i : Nat) (n : Int), i < R.length → posF k (R.set i z) n = (posF k R n).filter fun y => !decide (y = n + i)
  | [], i, n, h => by simp at h
  | y :: r, 0, n, _ => by
    simp only [List.set_cons_zero, posF, if_neg hz, List.nil_append, List.filter_append]
    have h1 : (posF k r (n + 1)).filter (fun y => !decide (y = n + (0 : Nat))) = posF k r (n + 1) := List.filter_eq_self.2 fun a ha => by
      have := (posF_mem.1 ha).1
      simp; omega
    rw [h1]
    split <;> simp
  | y :: r, i + 1, n, h => by
    have ih := posF_set hz r i (n + 1) (by simpa using h)
    simp only [List.set_cons_succ, posF, ih, List.filter_append]
    congr 1
    · split
      · rw [List.filter_cons_of_pos (by simp; omega)]; rfl
      · rfl
    · congr 1; funext y'
      have : (y' = n + 1 + (i : Int)) ↔ (y' = n + ((i + 1 : Nat) : Int)) := by omega
      simp only [this]
theorem pos_set {k z : Int} (hz : z ≠ k) {R : List Int} {x : Int} (hx : 1 ≤ x ∧ x ≤ R.length) : pos k (R.set (x - 1).toNat z) = del x (pos k R) := by
  rw [pos, posF_set hz R _ 1 (by omega), del]
  congr 1; funext y
  have : (1 : Int) + ((x - 1).toNat : Int) = x := by omega
  rw [this]

abbrev endR (R : List Int) (x st : Int) : List Int := R.set (x - 1).toNat st
theorem Alike.abort {s : TxS} {R : List Int} (h : Alike s R) {x : Int} (hx : x ∈ pos 1 R) : Alike ⟨s.next, del x s.O, s.D⟩ (endR R x 3) := by
  obtain ⟨h1, h2, h3⟩ := pos_mem.1 hx
  refine ⟨by simpa using h.next, ?_, fun y => ?_, fun z hz => ?_⟩
  · dsimp only; rw [h.O, pos_set (by decide) ⟨h1, h2⟩]
  · dsimp only; rw [pos_set (by decide) ⟨h1, h2⟩, h.D y, del, List.mem_filter]
    constructor
    · intro hy
      refine ⟨hy, ?_⟩
      have : y ≠ x := by
        rintro rfl
        have := (pos_mem.1 hy).2.2
        rw [h3] at this; simp at this
      simpa using this
    · exact fun hy => hy.1
  · rcases List.mem_or_eq_of_mem_set hz with hz | rfl
    · exact h.ok z hz
    · exact .inr (.inr rfl)
theorem Alike.commit {s : TxS} {R : List Int} (h : Alike s R) {x : Int} (hx : x ∈ pos 1 R) : Alike ⟨s.next, del x s.O, ins x s.D⟩ (endR R x 2) := by
  obtain ⟨h1, h2, h3⟩ := pos_mem.1 hx
  refine ⟨by simpa using h.next, ?_, fun y => ?_, fun z hz => ?_⟩
  · dsimp only; rw [h.O, pos_set (by decide) ⟨h1, h2⟩]
  · have e : y ∈ ins x s.D ↔ y = x ∨ y ∈ s.D := by
      unfold ins; split
      · rename_i hh; constructor
        · exact .inr
        · rintro (rfl | h); exact hh; exact h
      · simp [or_comm]
    dsimp only
    rw [e, h.D y, pos_mem, pos_mem, List.length_set]
    by_cases hyx : y = x
    · subst hyx
      simp only [true_or, true_iff]
      refine ⟨h1, h2, ?_⟩
      rw [List.getElem?_set, if_pos rfl, if_pos (by omega)]
    · simp only [hyx, false_or]
      constructor
      · rintro ⟨a1, a2, a3⟩
        exact ⟨a1, a2, by rw [List.getElem?_set, if_neg (by omega)]; exact a3⟩
      · rintro ⟨a1, a2, a3⟩
        rw [List.getElem?_set, if_neg (by omega)] at a3
        exact ⟨a1, a2, a3⟩
  · rcases List.mem_or_eq_of_mem_set hz with hz | rfl
    · exact h.ok z hz
    · exact .inr (.inl rfl)

/-! #### loaded -/
def badL (next : Int) (x : Int) : Bool := if x < 1 then true else decide (next ≤ x)
def validL (next : Int) (L : List Int) : Bool := if next < 1 then false else if 1048576 < next then false else !L.any (badL next)
def insL (L : List Int) : List Int := L.foldl (fun D c => ins c D) []
def setL (B L : List Int) : List Int := L.foldl (fun R c => R.set (c - 1).toNat 2) B
def loadR (next : Int) (L : List Int) : List Int := setL (List.replicate (next - 1).toNat 3) L
theorem setL_len : ∀ (L B : List Int), (setL B L).length = B.length
  | [], B => rfl
  | c :: r, B => by
    have := setL_len r (B.set (c - 1).toNat 2)
    simpa [setL] using this
theorem setL_at : ∀ (L B : List Int) (j : Nat), (setL B L)[j]? = if (∃ c ∈ L, (c - 1).toNat = j) ∧ j < B.length then some 2 else B[j]?
  | [], B, j => by simp [setL]
  | c :: r, B, j => by
    have ih := setL_at r (B.set (c - 1).toNat 2) j
    have e : setL B (c :: r) = setL (B.set (c - 1).toNat 2) r := rfl
    rw [e, ih, List.length_set]
    by_cases hj : j < B.length
    · by_cases hr : ∃ c ∈ r, (c - 1).toNat = j
      · rw [if_pos ⟨hr, hj⟩, if_pos ⟨by obtain ⟨d, hd, he⟩ := hr; exact ⟨d, List.mem_cons_of_mem _ hd, he⟩, hj⟩]
      · rw [if_neg (fun h => hr h.1), List.getElem?_set]
        by_cases hc : (c - 1).toNat = j
        · rw [if_pos hc, if_pos (by omega), if_pos ⟨⟨c, by simp, hc⟩, hj⟩]
        · rw [if_neg hc, if_neg]
          rintro ⟨⟨d, hd, he⟩, _⟩
          rcases List.mem_cons.1 hd with rfl | hd
          · exact hc he
          · exact hr ⟨d, hd, he⟩
    · rw [if_neg (fun h => hj h.2), if_neg (fun h => hj h.2), List.getElem?_set]
      split
      · rw [if_neg (by omega), List.getElem?_eq_none (by omega)]
      · rfl
theorem mem_ins {x y : Int} {D : List Int} : y ∈ ins x D ↔ y = x ∨ y ∈ D := by
  unfold ins; split
  · rename_i hh; constructor
    · exact .inr
    · rintro (rfl | h); exact hh; exact h
  · simp [or_comm]
theorem mem_insL (L : List Int) (x : Int) : x ∈ insL L ↔ x ∈ L := by
  have : ∀ (L D : List Int), x ∈ L.foldl (fun D c => ins c D) D ↔ x ∈ D ∨ x ∈ L := fun L => by
    induction L with
    | nil => intro D; simp
    | cons c r ih =>
      intro D
      rw [List.foldl_cons, ih, mem_ins, List.mem_cons]
      constructor
      · rintro ((h | h) | h)
        · exact .inr (.inl h)
        · exact .inl h
        · exact .inr (.inr h)
      · rintro (h | h | h)
        · exact .inl (.inr h)
        · exact .inl (.inl h)
        · exact .inr h
  rw [insL, this]; simp
theorem validL_spec {next : Int} {L : List Int} (h : validL next L = true) : 1 ≤ next ∧ next ≤ 1048576 ∧ ∀ c ∈ L, 1 ≤ c ∧ c < next := by
  unfold validL at h
  split at h
  · cases h
  split at h
  · cases h
  refine ⟨by omega, by omega, fun c hc => ?_⟩
  simp only [Bool.not_eq_true', List.any_eq_false] at h
  have := h c hc
  unfold badL at this
  split at this
  · simp at this
  · simp at this; omega
theorem Alike.load {next : Int} {L : List Int} (h : validL next L = true) : Alike ⟨next, [], insL L⟩ (loadR next L) := by
  obtain ⟨h1, h2, h3⟩ := validL_spec h
  have hlen : (loadR next L).length = (next - 1).toNat := by rw [loadR, setL_len]; simp
  have hat : ∀ j, (loadR next L)[j]? = if (∃ c ∈ L, (c - 1).toNat = j) ∧ j < (next - 1).toNat then some 2 else if j < (next - 1).toNat then some 3 else none := fun j => by
    rw [loadR, setL_at, List.length_replicate, List.getElem?_replicate]
  refine ⟨by rw [hlen]; dsimp only; omega, ?_, fun x => ?_, fun z hz => ?_⟩
  · dsimp only
    symm
    rw [List.eq_nil_iff_forall_not_mem]
    intro x hx
    have := (pos_mem.1 hx).2.2
    rw [hat] at this
    split at this
    · simp at this
    · split at this <;> simp at this
  · dsimp only
    rw [mem_insL, pos_mem, hlen, hat]
    constructor
    · intro hx
      have := h3 x hx
      refine ⟨this.1, by omega, ?_⟩
      rw [if_pos ⟨⟨x, hx, rfl⟩, by omega⟩]
    · rintro ⟨a1, a2, a3⟩
      split at a3
      · rename_i hh
        obtain ⟨⟨c, hc, he⟩, _⟩ := hh
        have := h3 c hc
        have : c = x := by omega
        subst this; exact hc
      · split at a3 <;> simp at a3
  · obtain ⟨j, hj⟩ := List.mem_iff_getElem?.1 hz
    rw [hat] at hj
    split at hj
    · cases hj; exact .inr (.inl rfl)
    · split at hj
      · cases hj; exact .inr (.inr rfl)
      · cases hj

/-! ### calls -/
set_option maxHeartbeats 1000000 in
theorem r06_end (br : Nat) (A : Option Addr) (c : Nat) (R : List Int) (x st : Int) (hl : R.length ≤ 1100000) (w0 : World) (hfs : List PH) (hm : Mod hfs (refB br A c R) w0) :
    Calls Tryz.prog 52 #[.pointer (some ⟨br, 0, none⟩), .int .i64 x, .int .u8 st] w0 fun e w' => ∃ v Rs', e = .returned v ∧ ((rState R x = 1 ∧ v = .int .i64 0 ∧ Rs' = refB br A c (endR R x st)) ∨ (rState R x ≠ 1 ∧ v = .int .i64 7 ∧ Rs' = refB br A c R)) ∧ Mod hfs Rs' w' ∧ Oth w0 w' := by
  have hAs : R ≠ [] → ∃ b o, A = some ⟨b, o, none⟩ := fun h => hm.own_some (i := 1) rfl h
  refine enterN (tab := tab) Tryz.func52 rfl Tryz.ntmps52 rfl (args := [_, _, _]) rfl hm ?_
  refine VC_sound tabOk 100 ?_
  refine Go_ops rfl (OpTo_pcall (v := .int .u8 (rState R x)) rfl rfl rfl rfl rfl (by kernel_rfl) (fun w hm _ => r06_state br A c R x w (hm.blk_at (i := 0) rfl) (hm.own_rd (i := 1) rfl) (by omega)) ?_)
  refine VC_sound tabOk 100 ?_
  refine ⟨fun h => ?_, fun h => ?_⟩
  · exact ⟨_, .inr ⟨by simpa using h, rfl, rfl⟩, fun _ _ h => h⟩
  have h1 : rState R x = 1 := by simpa using h
  have hx := pos_mem.1 ((rState_one x).1 h1)
  obtain ⟨b, o, rfl⟩ := hAs (ne_nil_of_lt (by omega : 0 < R.length))
  (repeat (first | refine Or.inl ⟨rfl, rfl, ?_⟩ | refine Or.inl ⟨rfl, ?_⟩ | refine Or.inr ?_))
  refine ⟨_, wrap_i64 (n := x - 1) (by omega) (by omega), ?_⟩
  refine ⟨⟨by omega, by omega⟩, ?_⟩
  (repeat (first | refine Or.inl ⟨rfl, rfl, ?_⟩ | refine Or.inl ⟨rfl, ?_⟩ | refine Or.inr ?_))
  show Go _ _ _ _
  refine Go_ops rfl (OpTo_storeRow tabOk (encI_is .u8) (n := (x - 1).toNat) (u := st) (xs := R) 1 rfl rfl rfl rfl rfl rfl rfl (by omega) (by simp only [addA]) rfl ?_)
  refine VC_sound tabOk 100 ?_
  refine ⟨_, .inl ⟨h1, rfl, rfl⟩, fun hfs w h => ?_⟩
  simp only [refB, endR, List.length_set]
  exact h


end Go.Proofs.YthpcahgdobnljaaGreat
