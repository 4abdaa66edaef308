/- What the references of layer 12 do. -/
import Derived.Test.YthpcahgdobnljaaGreatBatch
import Derived.Test.YthpcahgdobnljaaGreatR06
set_option maxRecDepth 100000
set_option autoImplicit false
set_option linter.unusedVariables false
set_option linter.unusedSimpArgs false
namespace Go.Proofs.YthpcahgdobnljaaGreat.Bt
open Go.RX Go Go.RowKit


/-- The reference's manager, to be read. -/
structure RefAt (w : World) (br : Nat) (Ar : Option Addr) (cr : Nat) (R : List Int) : Prop where
  blk : w.heap[br]? = some (.cells #[.slice Ar R.length cr] 106 (0, 0))
  row : RdW w Ar (R.flatMap encU)
  len : R.length ≤ 1000000
theorem RefAt.old {w0 w : World} {br : Nat} {Ar : Option Addr} {cr : Nat} {R : List Int} (h : RefAt w0 br Ar cr R) (hk : ∀ n, n < w0.heap.size → w.heap[n]? = w0.heap[n]?) : RefAt w br Ar cr R :=
  ⟨by rw [hk br (Array.getElem?_eq_some_iff.1 h.blk).1]; exact h.blk, h.row.old hk, h.len⟩
theorem RefAt.state {w : World} {br : Nat} {Ar : Option Addr} {cr : Nat} {R : List Int} (h : RefAt w br Ar cr R) (x : Int) : Calls Tryz.prog 44 #[.pointer (some ⟨br, 0, none⟩), .int .i64 x] w fun e w' => e = .returned (.int .u8 (rState R x)) ∧ BelowD w.heap.size w w' := r06_state br Ar cr R x w h.blk h.row (by have := h.len; omega)

set_option maxHeartbeats 4000000 in
theorem r12_needs (e : EventM) (br : Nat) (Ar : Option Addr) (cr : Nat) (R : List Int) (As : Option Addr) (cs : Nat) (sn : List SnM) (w0 : World) (hR : RefAt w0 br Ar cr R) (hs : RdW w0 As (sn.flatMap encS)) (hn : sn.length ≤ 10000) (hx : ∀ x ∈ sn, x.rd w0) :
    Calls Tryz.prog 173 #[mkE e, .pointer (some ⟨br, 0, none⟩), .slice As sn.length cs] w0 fun r w' => r = .returned (.bool (needsB (rState R) sn e)) ∧ BelowD w0.heap.size w0 w' := by
  refine enterP (tab := tab) Tryz.func173 rfl Tryz.ntmps173 rfl (args := [_, _, _]) rfl ?_
  refine VC_sound tabOk 100 ?_
  intro b3 _
  (repeat (first | refine Or.inl ⟨rfl, rfl, ?_⟩ | refine Or.inl ⟨rfl, ?_⟩ | refine Or.inr ?_))
  refine Go_ops rfl (OpTo_pcall (v := .int .u8 (rState R e.tx)) rfl rfl rfl rfl rfl (by kernel_rfl) (fun w hm _ => (hR.old hm.old).state e.tx) ?_)
  refine VC_sound tabOk 100 ?_
  refine ⟨fun h1 => ?_, fun h1 => ?_⟩
  · exact congrArg Value.bool (by rw [needsB, if_pos (by simpa using h1)])
  have h1' : ¬ rState R e.tx = 1 := by simpa using h1
  refine Go_loop (σ := Nat) (fun i => [(1, .v (.pointer (some ⟨br, 0, none⟩))), (2, .v (.slice As sn.length cs)), (3, .v (.pointer (some ⟨b3, 0, none⟩))), (7, .v (.int .i64 i))]) (fun _ => [.blk b3 65 (encE e)]) (fun i => i ≤ sn.length ∧ (rState R e.tx = 2 → (sn.take i).any (fun x => !x.sees e.tx) = false)) (fun i => sn.length - i) 0 ⟨Nat.zero_le _, fun _ => rfl⟩ ⟨rfl, rfl, rfl, rfl, trivial⟩ (fun _ h => h) ?_
  rintro i ⟨hi, hI⟩
  dsimp only at hi hI ⊢
  by_cases hlt : i < sn.length
  · obtain ⟨b, of, rfl⟩ := RdW.some encS_is hs (ne_nil_of_lt hlt)
    obtain ⟨s, hgs⟩ : ∃ s, sn[i]? = some s := ⟨_, List.getElem?_eq_getElem hlt⟩
    have hsx := hx s (List.mem_of_getElem? hgs)
    have hstep : (sn.take (i + 1)).any (fun x => !x.sees e.tx) = ((sn.take i).any (fun x => !x.sees e.tx) || !s.sees e.tx) := by
      rw [List.take_add_one, hgs, List.any_append]; simp
    refine VC_sound tabOk 100 ?_
    refine ⟨fun _ => ?_, fun h => by first | (simp at h; done) | (simp at h; omega) | (simp_all; done)⟩
    show Go _ _ _ _
    refine Go_any mixed [] [(0, false), (1, false), (2, false), (3, true), (4, false), (5, false), (6, false), (7, false), (8, false), (10, false), (9, false), (11, false), (12, true), (13, false), (14, false)] rfl (by kernel_rfl) (by kernel_rfl) [.blk b3 65 (encE e)] (fun w => RdW w (some ⟨b, of, none⟩) (sn.flatMap encS)) (fun w w' hk h => h.old hk) (fun w hm _ => ⟨Holds.of_idx [0] hm, hs.mod hm⟩) ?_
    refine VC_sound tabOk 100 ?_
    (repeat (first | refine Or.inl ⟨rfl, rfl, ?_⟩ | refine Or.inl ⟨rfl, ?_⟩ | refine Or.inr ?_))
    refine Go_aloneL rfl rfl (OpTo_pcall (v := .int .u8 (rState R e.tx)) rfl rfl rfl rfl rfl (by kernel_rfl) (fun w hm _ => (hR.old hm.old).state e.tx) ?_)
    refine And.intro (fun w hm _ => ⟨Holds.of_idx [0] hm, hs.mod hm⟩) ?_
    refine VC_sound tabOk 100 ?_
    refine ⟨fun h2 => ?_, fun h2 => ?_⟩
    · have h2' : rState R e.tx = 2 := by simpa using h2
      refine ⟨⟨by omega, by omega⟩, ?_⟩
      (repeat (first | refine Or.inl ⟨rfl, rfl, ?_⟩ | refine Or.inl ⟨rfl, ?_⟩ | refine Or.inr ?_))
      refine Go_first (v := s.v) rfl rfl rfl rfl (fun w _ hw => rxLoadRow tabOk rfl encS_is rfl (fun h => by first | rfl | cases h) hw hgs (by simp only [addA]; rfl) rfl) ?_
      refine VC_sound tabOk 100 ?_
      (repeat (first | refine Or.inl ⟨rfl, rfl, ?_⟩ | refine Or.inl ⟨rfl, ?_⟩ | refine Or.inr ?_))
      refine Go_aloneL rfl rfl (OpTo_pcall (v := .bool (s.sees e.tx)) rfl rfl rfl rfl rfl (by kernel_rfl) (fun w hm _ => r05_sees s.mx s.A s.c s.op e.tx w (hsx.1.mod hm) (by have := hsx.2; omega)) ?_)
      refine And.intro (fun w hm _ => ⟨Holds.of_idx [0] hm, hs.mod hm⟩) ?_
      refine VC_sound tabOk 100 ?_
      refine ⟨fun h3 => ?_, fun h3 => ?_⟩
      · refine congrArg Value.bool ?_
        rw [needsB, if_neg h1', if_pos h2']
        symm
        refine List.any_eq_true.2 ⟨s, List.mem_of_getElem? hgs, by simpa using h3⟩
      · refine ⟨_, wrap_i64 (n := (i : Int) + 1) (by omega) (by omega), ?_⟩
        exact Go_fin (i + 1) ⟨by omega, fun h => by rw [hstep, hI h]; simpa using h3⟩ (by omega) ⟨rfl, rfl, rfl, rfl, trivial⟩ (fun _ h => h)
    · have h2' : ¬ rState R e.tx = 2 := by simpa using h2
      refine ⟨_, wrap_i64 (n := (i : Int) + 1) (by omega) (by omega), ?_⟩
      exact Go_fin (i + 1) ⟨by omega, fun h => absurd h h2'⟩ (by omega) ⟨rfl, rfl, rfl, rfl, trivial⟩ (fun _ h => h)
  refine VC_sound tabOk 100 ?_
  refine ⟨fun h => by first | (simp at h; done) | (simp at h; omega) | (simp_all; done), fun _ => ?_⟩
  refine congrArg Value.bool ?_
  rw [needsB, if_neg h1']
  have he : i = sn.length := by omega
  subst he
  rw [List.take_length] at hI
  split
  · rename_i h; exact (hI h).symm
  · rfl

set_option maxHeartbeats 2000000 in
theorem r12_free (A : Option Addr) (c : Nat) (l : List EventM) (br : Nat) (Ar : Option Addr) (cr : Nat) (R : List Int) (As : Option Addr) (cs : Nat) (sn : List SnM) (w0 : World) (hr : RdW w0 A (l.flatMap encE)) (hl : l.length ≤ 10000) (hR : RefAt w0 br Ar cr R) (hs : RdW w0 As (sn.flatMap encS)) (hn : sn.length ≤ 10000) (hx : ∀ x ∈ sn, x.rd w0) :
    Calls Tryz.prog 127 #[.slice A l.length c, .pointer (some ⟨br, 0, none⟩), .slice As sn.length cs] w0 fun r w' => r = .returned (.bool (freeB (rState R) sn l)) ∧ BelowD w0.heap.size w0 w' := by
  refine enterP (tab := tab) Tryz.func127 rfl Tryz.ntmps127 rfl (args := [_, _, _]) rfl ?_
  refine VC_sound tabOk 100 ?_
  refine Go_loop (σ := Nat) (fun i => [(0, .v (.slice A l.length c)), (1, .v (.pointer (some ⟨br, 0, none⟩))), (2, .v (.slice As sn.length cs)), (7, .v (.int .i64 i))]) (fun _ => []) (fun i => i ≤ l.length ∧ (l.take i).any (needsB (rState R) sn) = false) (fun i => l.length - i) 0 ⟨Nat.zero_le _, rfl⟩ ⟨rfl, rfl, rfl, rfl, trivial⟩ (fun _ h => h) ?_
  rintro i ⟨hi, hI⟩
  dsimp only at hi hI ⊢
  by_cases hlt : i < l.length
  · obtain ⟨b, of, rfl⟩ := RdW.some encE_is hr (ne_nil_of_lt hlt)
    obtain ⟨e, hge⟩ : ∃ s, l[i]? = some s := ⟨_, List.getElem?_eq_getElem hlt⟩
    have hstep : (l.take (i + 1)).any (needsB (rState R) sn) = ((l.take i).any (needsB (rState R) sn) || needsB (rState R) sn e) := by
      rw [List.take_add_one, hge, List.any_append]; simp
    refine VC_sound tabOk 100 ?_
    refine ⟨fun _ => ?_, fun h => by first | (simp at h; done) | (simp at h; omega) | (simp_all; done)⟩
    refine ⟨⟨by omega, by omega⟩, ?_⟩
    refine Go_ops rfl (OpTo_loadRow tabOk encE_is (mkE e) rfl rfl rfl rfl rfl (fun h => by first | rfl | cases h) (fun w hm _ => hr.mod hm) hge (by simp only [addA]; rfl) ?_)
    refine VC_sound tabOk 100 ?_
    refine Go_ops rfl (OpTo_pcall (v := .bool (needsB (rState R) sn e)) rfl rfl rfl rfl rfl (by kernel_rfl) (fun w hm _ => r12_needs e br Ar cr R As cs sn w (hR.old hm.old) (hs.mod hm) hn (fun x hxx => SnM.rd_old (hx x hxx) hm.old)) ?_)
    refine VC_sound tabOk 100 ?_
    refine ⟨fun h => ?_, fun h => ?_⟩
    · refine congrArg Value.bool ?_
      have : l.any (needsB (rState R) sn) = true := List.any_eq_true.2 ⟨e, List.mem_of_getElem? hge, h⟩
      rw [freeB, this]; rfl
    · refine ⟨_, wrap_i64 (n := (i : Int) + 1) (by omega) (by omega), ?_⟩
      exact Go_fin (i + 1) ⟨by omega, by rw [hstep, hI]; simpa using h⟩ (by omega) ⟨rfl, rfl, rfl, rfl, trivial⟩ (fun _ h => h)
  refine VC_sound tabOk 100 ?_
  refine ⟨fun h => by first | (simp at h; done) | (simp at h; omega) | (simp_all; done), fun _ => ?_⟩
  have he : i = l.length := by omega
  subst he
  rw [List.take_length] at hI
  exact congrArg Value.bool (by rw [freeB, hI]; rfl)
end Go.Proofs.YthpcahgdobnljaaGreat.Bt
