/- What the reference of layer 6 does: a manager is what has become of each. -/
import Derived.Test.YthpcahgdobnljaaGreatTxn
set_option maxRecDepth 100000
set_option autoImplicit false
set_option linter.unusedVariables false
set_option linter.unusedSimpArgs false
namespace Go.Proofs.YthpcahgdobnljaaGreat
open Go.RX Go Go.RowKit


/-- The places of a state, from 'n' on. -/
def posF (k : Int) : List Int → Int → List Int
  | [], _ => []
  | z :: r, n => (if z = k then [n] else []) ++ posF k r (n + 1)
abbrev pos (k : Int) (R : List Int) : List Int := posF k R 1
theorem posF_append (k : Int) (R : List Int) (z : Int) : ∀ n : Int, posF k (R ++ [z]) n = posF k R n ++ if z = k then [n + R.length] else [] := by
  induction R with
  | nil => intro n; simp [posF]
  | cons y r ih => intro n; simp only [List.cons_append, posF, ih, List.append_assoc, List.length_cons]; congr 2; split <;> simp <;> omega
theorem pos_append (k : Int) (R : List Int) (z : Int) : pos k (R ++ [z]) = pos k R ++ if z = k then [(R.length : Int) + 1] else [] := by
  rw [pos, posF_append]; congr 1; split <;> simp <;> omega
theorem posF_mem {k : Int} {R : List Int} : ∀ {n x : Int}, x ∈ posF k R n ↔ n ≤ x ∧ x < n + R.length ∧ R[(x - n).toNat]? = some k := by
  induction R with
  | nil => intro n x; simp [posF]
  | cons y r ih =>
    intro n x
    simp only [posF, List.mem_append, ih, List.length_cons]
    by_cases hx : x = n
    · subst hx
      simp
      constructor
      · rintro (h | h)
        · exact ⟨by omega, h⟩
        · omega
      · rintro ⟨_, h⟩; exact .inl h
    · constructor
      · rintro (h | ⟨h1, h2, h3⟩)
        · split at h
          · simp at h; omega
          · simp at h
        · refine ⟨by omega, by omega, ?_⟩
          rw [show (x - n).toNat = (x - (n + 1)).toNat + 1 from by omega, List.getElem?_cons_succ]; exact h3
      · rintro ⟨h1, h2, h3⟩
        rw [show (x - n).toNat = (x - (n + 1)).toNat + 1 from by omega, List.getElem?_cons_succ] at h3
        exact .inr ⟨by omega, by omega, h3⟩
theorem pos_mem {k : Int} {R : List Int} {x : Int} : x ∈ pos k R ↔ 1 ≤ x ∧ x ≤ R.length ∧ R[(x - 1).toNat]? = some k := by
  rw [posF_mem]; constructor <;> rintro ⟨h1, h2, h3⟩ <;> exact ⟨h1, by omega, h3⟩
theorem pos_len (k : Int) (R : List Int) : (pos k R).length ≤ R.length := by
  have : ∀ (R : List Int) (n : Int), (posF k R n).length ≤ R.length := fun R => by
    induction R with
    | nil => intro n; simp [posF]
    | cons y r ih => intro n; simp only [posF, List.length_append, List.length_cons]; have := ih (n + 1); split <;> simp <;> omega
  exact this R 1
theorem pos_take (k : Int) {R : List Int} {i : Nat} {z : Int} (h : R[i]? = some z) : pos k (R.take (i + 1)) = pos k (R.take i) ++ if z = k then [(i : Int) + 1] else [] := by
  have hi := (List.getElem?_eq_some_iff.1 h).1
  rw [List.take_add_one, h, Option.toList_some, pos_append, List.length_take, Nat.min_eq_left (by omega)]

/-- The manager of package txn that goes with it. -/
abbrev txOf (R : List Int) : TxS := ⟨(R.length : Int) + 1, pos 1 R, pos 2 R⟩
def rState (R : List Int) (x : Int) : Int := if x < 1 ∨ (R.length : Int) < x then 0 else (R[(x - 1).toNat]?).getD 0
def okR (R : List Int) : Prop := ∀ z ∈ R, z = 1 ∨ z = 2 ∨ z = 3
theorem stE_txOf {R : List Int} (h : okR R) (x : Int) : stE (txOf R) x = rState R x := by
  unfold stE rState
  by_cases h0 : x < 1 ∨ (R.length : Int) < x
  · rw [if_pos (by dsimp only; omega), if_pos h0]
  · rw [if_neg (by dsimp only; omega), if_neg h0]
    obtain ⟨z, hz⟩ : ∃ z, R[(x - 1).toNat]? = some z := ⟨_, List.getElem?_eq_getElem (by omega)⟩
    have hm : ∀ k, x ∈ pos k R ↔ z = k := fun k => by
      rw [pos_mem, hz]; constructor
      · rintro ⟨_, _, h⟩; simpa using h
      · rintro rfl; exact ⟨by omega, by omega, rfl⟩
    simp only [hm, hz, Option.getD_some]
    rcases h z (List.mem_of_getElem? hz) with rfl | rfl | rfl <;> rfl

abbrev encU := encI .u8
abbrev refB (br : Nat) (A : Option Addr) (c : Nat) (R : List Int) : List Res := [.blk br 106 [.slice A R.length c], own encU 1 5 A c R]

theorem r06_state (br : Nat) (A : Option Addr) (c : Nat) (R : List Int) (x : Int) (w0 : World) (hb : w0.heap[br]? = some (.cells #[.slice A R.length c] 106 (0, 0))) (hr : RdW w0 A (R.flatMap encU)) (hl : R.length ≤ 2000000) :
    Calls Tryz.prog 44 #[.pointer (some ⟨br, 0, none⟩), .int .i64 x] w0 fun e w' => e = .returned (.int .u8 (rState R x)) ∧ BelowD w0.heap.size w0 w' := by
  refine enterP (tab := tab) Tryz.func44 rfl Tryz.ntmps44 rfl (args := [_, _]) rfl ?_
  refine VC_sound tabOk 100 ?_
  refine ⟨fun h1 => ?_, fun h1 => ?_⟩
  · exact congrArg (Value.int .u8) (by rw [rState, if_pos (.inl (by simpa using h1))])
  refine Go_ops rfl (OpTo_loadBlk tabOk (cs := [.slice A R.length c]) (.slice A R.length c) rfl rfl rfl (fun w hm _ => hm.block_old hb) rfl ?_)
  refine VC_sound tabOk 100 ?_
  refine ⟨fun h2 => ?_, fun h2 => ?_⟩
  · exact congrArg (Value.int .u8) (by rw [rState, if_pos (.inr (by simpa using h2))])
  have h0 : ¬ (x < 1 ∨ (R.length : Int) < x) := by simp at h1 h2; omega
  obtain ⟨b, o, rfl⟩ := RdW.some (encI_is .u8) hr (ne_nil_of_lt (by omega : 0 < R.length))
  obtain ⟨z, hz⟩ : ∃ z, R[(x - 1).toNat]? = some z := ⟨_, List.getElem?_eq_getElem (by omega)⟩
  refine Go_ops rfl (OpTo_loadBlk tabOk (cs := [.slice (some ⟨b, o, none⟩) R.length c]) (.slice (some ⟨b, o, none⟩) R.length c) rfl rfl rfl (fun w hm _ => hm.block_old hb) rfl ?_)
  refine VC_sound tabOk 100 ?_
  refine ⟨_, wrap_i64 (n := x - 1) (by omega) (by omega), ?_⟩
  refine ⟨⟨by omega, by omega⟩, ?_⟩
  refine Go_ops rfl (OpTo_loadRow tabOk (encI_is .u8) (.int .u8 z) rfl rfl rfl rfl rfl (fun h => rfl) (fun w hm _ => hr.mod hm) hz (by simp only [addA]) ?_)
  refine VC_sound tabOk 100 ?_
  exact congrArg (Value.int .u8) (by rw [rState, if_neg h0, hz]; rfl)

theorem r06_next (br : Nat) (A : Option Addr) (c : Nat) (R : List Int) (w0 : World) (hb : w0.heap[br]? = some (.cells #[.slice A R.length c] 106 (0, 0))) (hl : R.length ≤ 2000000) :
    Calls Tryz.prog 48 #[.pointer (some ⟨br, 0, none⟩)] w0 fun e w' => e = .returned (.int .i64 ((R.length : Int) + 1)) ∧ BelowD w0.heap.size w0 w' := by
  refine enterP (tab := tab) Tryz.func48 rfl Tryz.ntmps48 rfl (args := [_]) rfl ?_
  refine VC_sound tabOk 100 ?_
  refine Go_ops rfl (OpTo_loadBlk tabOk (cs := [.slice A R.length c]) (.slice A R.length c) rfl rfl rfl (fun w hm _ => hm.block_old hb) rfl ?_)
  refine VC_sound tabOk 100 ?_
  refine ⟨_, wrap_i64 (n := (R.length : Int) + 1) (by omega) (by omega), ?_⟩
  rfl

set_option maxHeartbeats 1000000 in
theorem r06_open (br : Nat) (A : Option Addr) (c : Nat) (R : List Int) (w0 : World) (hb : w0.heap[br]? = some (.cells #[.slice A R.length c] 106 (0, 0))) (hr : RdW w0 A (R.flatMap encU)) (hl : R.length ≤ 2000000) :
    Calls Tryz.prog 111 #[.pointer (some ⟨br, 0, none⟩)] w0 fun e w' => ∃ v Rs', e = .returned v ∧ (∃ A' c', v = .slice A' (pos 1 R).length c' ∧ Rs' = [own (encI .i64) 1 2 A' c' (pos 1 R)]) ∧ Mod [heapOf w0] Rs' w' ∧ Oth w0 w' := by
  refine enterN (tab := tab) Tryz.func111 rfl Tryz.ntmps111 rfl (args := [_]) rfl (Mod.start w0) ?_
  refine VC_sound tabOk 100 ?_
  refine Go_loop (σ := Nat × Option Addr × Nat) (fun s => [(0, .v (.pointer (some ⟨br, 0, none⟩))), (3, .v (.slice s.2.1 (pos 1 (R.take s.1)).length s.2.2)), (4, .v (.int .i64 s.1))]) (fun s => [own (encI .i64) 1 2 s.2.1 s.2.2 (pos 1 (R.take s.1))]) (fun s => s.1 ≤ R.length) (fun s => R.length - s.1) (0, none, 0) (Nat.zero_le _) ⟨rfl, rfl, rfl, trivial⟩ (fun _ h => h.own_nil none) ?_
  rintro ⟨i, A', c'⟩ hi
  dsimp only at hi ⊢
  have hpl := pos_len 1 (R.take i)
  rw [List.length_take] at hpl
  by_cases hlt : i < R.length
  · obtain ⟨b, o, rfl⟩ := RdW.some (encI_is .u8) hr (ne_nil_of_lt hlt)
    obtain ⟨z, hz⟩ : ∃ z, R[i]? = some z := ⟨_, List.getElem?_eq_getElem hlt⟩
    have hstep := pos_take 1 hz
    refine VC_sound tabOk 100 ?_
    refine Go_ops rfl (OpTo_loadBlk tabOk (cs := [.slice (some ⟨b, o, none⟩) R.length c]) (.slice (some ⟨b, o, none⟩) R.length c) rfl rfl rfl (fun w hm _ => hm.block_old hb) rfl ?_)
    refine VC_sound tabOk 100 ?_
    refine ⟨fun _ => ?_, fun h => by first | (simp at h; done) | (simp at h; omega) | (simp_all; done)⟩
    refine Go_ops rfl (OpTo_loadBlk tabOk (cs := [.slice (some ⟨b, o, none⟩) R.length c]) (.slice (some ⟨b, o, none⟩) R.length c) rfl rfl rfl (fun w hm _ => hm.block_old hb) rfl ?_)
    refine VC_sound tabOk 100 ?_
    refine ⟨⟨by omega, by omega⟩, ?_⟩
    refine Go_ops rfl (OpTo_loadRow tabOk (encI_is .u8) (.int .u8 z) rfl rfl rfl rfl rfl (fun h => rfl) (fun w hm _ => hr.mod hm) hz (by simp only [addA]; rfl) ?_)
    refine VC_sound tabOk 100 ?_
    refine ⟨fun h1 => ?_, fun h1 => ?_⟩
    · rw [if_pos (by simpa using h1)] at hstep
      refine ⟨_, wrap_i64 (n := (i : Int) + 1) (by omega) (by omega), ?_⟩
      intro b25 _
      show Go _ _ _ _
      refine Go_ops rfl (OpTo_append tabOk (encI_is .i64) (ys := [(i : Int) + 1]) (i := 1) rfl rfl rfl rfl rfl rfl rfl rfl rfl rfl rfl (fun w hm _ => hm.blk_rd (i := 0) rfl) (by simp; omega) (by simp; omega) (fun A2 c2 => ?_))
      refine VC_sound tabOk 100 ?_
      refine ⟨_, wrap_i64 (n := (i : Int) + 1) (by omega) (by omega), ?_⟩
      refine Go_fin (i + 1, A2, c2) (by dsimp only; omega) (by dsimp only; omega) ⟨rfl, ?_, rfl, trivial⟩ (fun _ h => by dsimp only; rw [hstep]; exact h.sel [1] rfl)
      dsimp only; rw [hstep, List.length_append]; rfl
    · rw [if_neg (by simpa using h1), List.append_nil] at hstep
      refine ⟨_, wrap_i64 (n := (i : Int) + 1) (by omega) (by omega), ?_⟩
      refine Go_fin (i + 1, A', c') (by dsimp only; omega) (by dsimp only; omega) ⟨rfl, ?_, rfl, trivial⟩ (fun _ h => by dsimp only; rw [hstep]; exact h)
      dsimp only; rw [hstep]
  have he : i = R.length := by omega
  subst he
  rw [List.take_length]
  refine VC_sound tabOk 100 ?_
  refine Go_ops rfl (OpTo_loadBlk tabOk (cs := [.slice A R.length c]) (.slice A R.length c) rfl rfl rfl (fun w hm _ => hm.block_old hb) rfl ?_)
  refine VC_sound tabOk 100 ?_
  refine ⟨fun h => by first | (simp at h; done) | (simp at h; omega) | (simp_all; done), fun _ => ?_⟩
  exact ⟨_, ⟨A', c', rfl, rfl⟩, fun _ _ h => h⟩

/-- Can one more begin? -/
def begR (R : List Int) : Prop := (pos 1 R).length < 6 ∧ (R.length : Int) + 1 < 1048576
set_option maxHeartbeats 1000000 in
theorem r06_begin_ok (br : Nat) (A : Option Addr) (c : Nat) (R : List Int) (hR : begR R) (w0 : World) (hfs : List PH) (hm : Mod hfs (refB br A c R) w0) :
    Calls Tryz.prog 49 #[.pointer (some ⟨br, 0, none⟩)] w0 fun e w' => ∃ v Rs', e = .returned v ∧ (∃ A' c', v = .tuple #[.int .i64 ((R.length : Int) + 1), .int .i64 0] ∧ Rs' = refB br A' c' (R ++ [1])) ∧ Mod hfs Rs' w' ∧ Oth w0 w' := by
  obtain ⟨h6, hx⟩ := hR
  refine enterN (tab := tab) Tryz.func49 rfl Tryz.ntmps49 rfl (args := [_]) rfl hm ?_
  refine VC_sound tabOk 100 ?_
  show Go _ _ _ _
  refine Go_ops rfl (OpTo_ncall rfl rfl rfl rfl rfl (by kernel_rfl) (fun w hm _ => r06_open br A c R w (hm.blk_at (i := 0) rfl) (hm.own_rd (i := 1) rfl) (by omega)) ?_)
  rintro _ _ ⟨A1, c1, rfl, rfl⟩
  refine VC_sound tabOk 100 ?_
  refine ⟨fun h => by first | (simp at h; done) | (simp at h; omega) | (simp_all; done), fun _ => ?_⟩
  refine Go_ops rfl (OpTo_pcall (v := .int .i64 ((R.length : Int) + 1)) rfl rfl rfl rfl rfl (by kernel_rfl) (fun w hm _ => r06_next br A c R w (hm.blk_at (i := 1) rfl) (by omega)) ?_)
  refine VC_sound tabOk 100 ?_
  refine ⟨fun h => by first | (simp at h; done) | (simp at h; omega) | (simp_all; done), fun _ => ?_⟩
  (repeat (first | refine Or.inl ⟨rfl, rfl, ?_⟩ | refine Or.inl ⟨rfl, ?_⟩ | refine Or.inr ?_))
  intro b18 _
  show Go _ _ _ _
  refine Go_ops rfl (OpTo_append tabOk (encI_is .u8) (ys := [1]) (i := 3) rfl rfl rfl rfl rfl rfl rfl rfl rfl rfl rfl (fun w hm _ => hm.blk_rd (i := 0) rfl) (by simp; omega) (by simp; omega) (fun A2 c2 => ?_))
  refine VC_sound tabOk 100 ?_
  (repeat (first | refine Or.inl ⟨rfl, rfl, ?_⟩ | refine Or.inl ⟨rfl, ?_⟩ | refine Or.inr ?_))
  refine ⟨_, ⟨A2, c2, rfl, rfl⟩, fun hfs w h => ?_⟩
  have h := h.sel [2, 3] rfl
  have e : R.length + 1 = (R ++ [(1 : Int)]).length := by simp
  rw [e] at h
  exact h
theorem r06_begin_no (br : Nat) (A : Option Addr) (c : Nat) (R : List Int) (hl : R.length ≤ 1000) (hR : 6 ≤ (pos 1 R).length) (w0 : World) (hfs : List PH) (hm : Mod hfs (refB br A c R) w0) :
    Calls Tryz.prog 49 #[.pointer (some ⟨br, 0, none⟩)] w0 fun e w' => ∃ v Rs', e = .returned v ∧ (v = .tuple #[.int .i64 0, .int .i64 8] ∧ Rs' = refB br A c R) ∧ Mod hfs Rs' w' ∧ Oth w0 w' := by
  refine enterN (tab := tab) Tryz.func49 rfl Tryz.ntmps49 rfl (args := [_]) rfl hm ?_
  refine VC_sound tabOk 100 ?_
  show Go _ _ _ _
  refine Go_ops rfl (OpTo_ncall rfl rfl rfl rfl rfl (by kernel_rfl) (fun w hm _ => r06_open br A c R w (hm.blk_at (i := 0) rfl) (hm.own_rd (i := 1) rfl) (by omega)) ?_)
  rintro _ _ ⟨A1, c1, rfl, rfl⟩
  refine VC_sound tabOk 100 ?_
  refine ⟨fun _ => ?_, fun h => by first | (simp at h; done) | (simp at h; omega) | (simp_all; done)⟩
  exact ⟨_, ⟨rfl, rfl⟩, fun _ _ h => h.sel [1, 2] rfl⟩

/-- The last one that began ends. -/
theorem r06_end_last (br : Nat) (A : Option Addr) (c : Nat) (R : List Int) (st : Int) (hl : R.length ≤ 1000000) (w0 : World) (hfs : List PH) (hm : Mod hfs (refB br A c (R ++ [1])) w0) :
    Calls Tryz.prog 52 #[.pointer (some ⟨br, 0, none⟩), .int .i64 ((R.length : Int) + 1), .int .u8 st] w0 fun e w' => ∃ v Rs', e = .returned v ∧ (v = .int .i64 0 ∧ Rs' = refB br A c (R ++ [st])) ∧ Mod hfs Rs' w' ∧ Oth w0 w' := by
  have hst : rState (R ++ [1]) ((R.length : Int) + 1) = 1 := by
    rw [rState, if_neg (by simp; omega), show ((R.length : Int) + 1 - 1).toNat = R.length from by omega]; simp
  obtain ⟨b, o, rfl⟩ := hm.own_some (i := 1) rfl (by simp)
  refine enterN (tab := tab) Tryz.func52 rfl Tryz.ntmps52 rfl (args := [_, _, _]) rfl hm ?_
  refine VC_sound tabOk 100 ?_
  refine Go_ops rfl (OpTo_pcall (v := .int .u8 (rState (R ++ [1]) ((R.length : Int) + 1))) rfl rfl rfl rfl rfl (by kernel_rfl) (fun w hm _ => r06_state br (some ⟨b, o, none⟩) c (R ++ [1]) ((R.length : Int) + 1) w (hm.blk_at (i := 0) rfl) (hm.own_rd (i := 1) rfl) (by simp; omega)) ?_)
  refine VC_sound tabOk 100 ?_
  refine ⟨fun h => by rw [hst] at h; simp at h, fun _ => ?_⟩
  (repeat (first | refine Or.inl ⟨rfl, rfl, ?_⟩ | refine Or.inl ⟨rfl, ?_⟩ | refine Or.inr ?_))
  refine ⟨_, wrap_i64 (n := (R.length : Int) + 1 - 1) (by omega) (by omega), ?_⟩
  refine ⟨⟨by omega, by simp; omega⟩, ?_⟩
  (repeat (first | refine Or.inl ⟨rfl, rfl, ?_⟩ | refine Or.inl ⟨rfl, ?_⟩ | refine Or.inr ?_))
  show Go _ _ _ _
  refine Go_ops rfl (OpTo_storeRow tabOk (encI_is .u8) (n := R.length) (u := st) (xs := R ++ [1]) 1 rfl rfl rfl rfl rfl rfl rfl (by simp) (by simp only [addA, show ((R.length : Int) + 1 - 1).toNat = R.length from by omega]) rfl ?_)
  rw [set_mid rfl]
  refine VC_sound tabOk 100 ?_
  refine ⟨_, ⟨rfl, rfl⟩, fun hfs w h => ?_⟩
  have e : (R ++ [(1 : Int)]).length = (R ++ [st]).length := by simp
  simp only [refB]
  rw [← e]
  exact h
end Go.Proofs.YthpcahgdobnljaaGreat
