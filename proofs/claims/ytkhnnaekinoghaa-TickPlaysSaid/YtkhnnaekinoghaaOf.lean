/- What the reference's Of of layer 5 makes: a snapshot that is right, by numbers. -/
import Derived.Test.YtkhnnaekinoghaaSnap
set_option autoImplicit false
set_option linter.unusedVariables false
namespace Go.Proofs.Ytkhnnaekinoghaa
open Go.RX Go Go.RowKit


def ofP (n : Nat) (z : Int) : Bool := decide (z.tmod 40 = (n : Int) + 1)
def ofUpto (op : List Int) : Nat → List Int
  | 0 => []
  | n + 1 => ofUpto op n ++ if op.any (ofP n) then [(n : Int) + 1] else []
def ofIn (op : List Int) (n i : Nat) : List Int := ofUpto op n ++ if (op.take i).any (ofP n) then [(n : Int) + 1] else []
theorem ofUpto_mem {op : List Int} : ∀ {n : Nat} {x : Int}, x ∈ ofUpto op n → 1 ≤ x ∧ x ≤ n
  | 0, x, h => by simp [ofUpto] at h
  | n + 1, x, h => by
    simp only [ofUpto, List.mem_append] at h
    rcases h with h | h
    · have := ofUpto_mem h; omega
    · split at h
      · simp at h; omega
      · simp at h
theorem ofUpto_len (op : List Int) : ∀ n, (ofUpto op n).length ≤ n
  | 0 => by simp [ofUpto]
  | n + 1 => by
    have := ofUpto_len op n
    simp only [ofUpto, List.length_append]
    split <;> simp <;> omega
theorem ofIn_len (op : List Int) (n i : Nat) : (ofIn op n i).length ≤ n + 1 := by
  have := ofUpto_len op n
  simp only [ofIn, List.length_append]
  split <;> simp <;> omega
theorem ofIn_has (op : List Int) (n i : Nat) : (ofIn op n i).contains ((n : Int) + 1) = (op.take i).any (ofP n) := by
  have h0 : ((n : Int) + 1) ∉ ofUpto op n := fun h => by have := ofUpto_mem h; omega
  rw [Bool.eq_iff_iff]
  simp only [ofIn, List.contains_iff_mem, List.mem_append]
  split
  · rename_i h; simp [h]
  · rename_i h; simp [h, h0]
theorem ofIn_succ (op : List Int) (n i : Nat) (h : i < op.length) : ofIn op n (i + 1) = if ofP n op[i] && !(ofIn op n i).contains ((n : Int) + 1) then ofIn op n i ++ [(n : Int) + 1] else ofIn op n i := by
  rw [ofIn_has]
  simp only [ofIn, List.take_succ_eq_append_getElem h, List.any_append, List.any_cons, List.any_nil, Bool.or_false]
  cases (op.take i).any (ofP n) <;> cases ofP n op[i] <;> simp
theorem ofIn_zero (op : List Int) (n : Nat) : ofIn op n 0 = ofUpto op n := by simp [ofIn]
theorem ofIn_all (op : List Int) (n i : Nat) (h : op.length ≤ i) : ofIn op n i = ofUpto op (n + 1) := by simp [ofIn, ofUpto, List.take_of_length_le h]

def ofQ (K : Nat) (op : List Int) : Value → List Res → Prop := fun v Rs => ∃ A c, v = snV (1 + (K : Int)) A (ofUpto op K).length c ∧ Rs = [own (encI .i64) 1 2 A c (ofUpto op K)]

set_option maxHeartbeats 1000000 in
theorem r05_of (m : Int) (A : Option Addr) (c : Nat) (op : List Int) (w0 : World) (hA : RdW w0 A (op.flatMap (encI .u8))) (hn : op.length ≤ 4611686018427387904) (K : Nat) (hm0 : 0 ≤ m ∧ m ≤ 255) (hK : m.tmod 40 = K) (hr : ∀ z ∈ op, 0 ≤ z ∧ z ≤ 255) :
    Calls Try.prog 15 #[.int .u8 m, .slice A op.length c] w0 fun e w' => ∃ v Rs', e = .returned v ∧ ofQ K op v Rs' ∧ Mod [heapOf w0] Rs' w' ∧ Oth w0 w' := by
  have hK40 : K < 40 := by have := Int.tmod_lt_of_pos m (b := 40) (by decide); omega
  refine enterN (tab := tab) Try.func15 rfl Try.ntmps15 rfl (args := [_, _]) rfl (Mod.start w0) ?_
  refine VC_sound tabOk 100 ?_
  intro b4 _
  refine ⟨by decide, _, hK.symm, ?_⟩
  refine ⟨_, wrap_i64 (n := (K : Int)) (by omega) (by omega), ?_⟩
  refine ⟨_, wrap_i64 (n := 1 + (K : Int)) (by omega) (by omega), ?_⟩
  intro b5 _
  (first | refine Or.inl ⟨rfl, rfl, ?_⟩ | refine Or.inr (Or.inl ⟨rfl, rfl, ?_⟩) | refine Or.inr (Or.inr (Or.inl ⟨rfl, rfl, ?_⟩)) | refine Or.inr (Or.inr (Or.inr (Or.inl ⟨rfl, rfl, ?_⟩))))
  refine Go_res _ (fun w h => h.own_nil (enc := encI .i64) (k := 1) (T := 2) none) ?_
  refine Go_loop (σ := Nat × Option Addr × Nat) (fun s => [(1, .v (.slice A op.length c)), (4, .v (.pointer (some ⟨b4, 0, none⟩))), (5, .v (.pointer (some ⟨b5, 0, none⟩))), (6, .v (.int .i64 ((s.1 : Int) + 1)))])
    (fun s => [own (encI .i64) 1 2 s.2.1 s.2.2 (ofUpto op s.1), .blk b5 27 [.int .i64 (1 + (K : Int)), .slice s.2.1 (ofUpto op s.1).length s.2.2], .blk b4 27 [.int .i64 0, .slice none 0 0]])
    (fun s => s.1 ≤ K) (fun s => K - s.1) (0, none, 0) (Nat.zero_le _) ⟨rfl, rfl, rfl, rfl, trivial⟩ (fun _ h => h) ?_
  rintro ⟨n, A', c'⟩ hnK
  simp only at hnK
  refine VC_sound tabOk 100 ?_
  (repeat (first | refine Or.inl ⟨rfl, rfl, ?_⟩ | refine Or.inl ⟨rfl, ?_⟩ | refine Or.inr ?_))
  refine ⟨fun h1 => ?_, fun h1 => ?_⟩
  · have hlt : n < K := by simp at h1; omega
    refine Go_loop (σ := Nat × Option Addr × Nat) (fun s => [(1, .v (.slice A op.length c)), (4, .v (.pointer (some ⟨b4, 0, none⟩))), (5, .v (.pointer (some ⟨b5, 0, none⟩))), (6, .v (.int .i64 ((n : Int) + 1))), (7, .v (.int .i64 s.1))])
      (fun s => [own (encI .i64) 1 2 s.2.1 s.2.2 (ofIn op n s.1), .blk b5 27 [.int .i64 (1 + (K : Int)), .slice s.2.1 (ofIn op n s.1).length s.2.2], .blk b4 27 [.int .i64 0, .slice none 0 0]])
      (fun s => s.1 ≤ op.length) (fun s => op.length - s.1) (0, A', c') (Nat.zero_le _) ⟨rfl, rfl, rfl, rfl, rfl, trivial⟩ (fun _ h => by simpa only [ofIn_zero] using h) ?_
    rintro ⟨i, A1, c1⟩ hi
    simp only at hi
    refine VC_sound tabOk 100 ?_
    refine ⟨fun h2 => ?_, fun h2 => ?_⟩
    · have hil : i < op.length := by simpa using h2
      obtain ⟨b, o, rfl⟩ := RdW.some (encI_is .u8) hA (ne_nil_of_lt hil)
      have hz := hr op[i] (by simp)
      have hl := ofIn_len op n i
      refine ⟨⟨by omega, by omega⟩, ?_⟩
      (repeat (first | refine Or.inl ⟨rfl, rfl, ?_⟩ | refine Or.inl ⟨rfl, ?_⟩ | refine Or.inr ?_))
      refine Go_ops rfl (OpTo_loadRow tabOk (encI_is .u8) (.int .u8 op[i]) rfl rfl rfl rfl rfl (fun _ => rfl) (fun w hm _ => hA.mod hm) (List.getElem?_eq_getElem hil) rfl ?_)
      refine VC_sound tabOk 100 ?_
      refine ⟨by decide, _, rfl, ?_⟩
      refine ⟨_, wrap_i64 (n := op[i].tmod 40) (by have := Int.tmod_nonneg 40 hz.1; omega) (by have := Int.tmod_lt_of_pos op[i] (b := 40) (by decide); omega), ?_⟩
      have hs := ofIn_succ op n i hil
      refine ⟨fun h3 => ?_, fun h3 => ?_⟩
      · (repeat (first | refine Or.inl ⟨rfl, rfl, ?_⟩ | refine Or.inl ⟨rfl, ?_⟩ | refine Or.inr ?_))
        refine Go_ops rfl (OpTo_pcall (v := .bool ((ofIn op n i).contains ((n : Int) + 1))) rfl rfl rfl rfl rfl (by kernel_rfl) (fun w hm _ => r01_has A1 c1 (ofIn op n i) ((n : Int) + 1) w (hm.own_rd (i := 0) rfl) (by omega)) ?_)
        refine VC_sound tabOk 100 ?_
        refine ⟨fun h4 => ?_, fun h4 => ?_⟩
        · (repeat (first | refine Or.inl ⟨rfl, rfl, ?_⟩ | refine Or.inl ⟨rfl, ?_⟩ | refine Or.inr ?_))
          intro b6 _
          show Go _ _ _ _
          refine Go_ops rfl (OpTo_append tabOk (encI_is .i64) (ys := [(n : Int) + 1]) (i := 1) rfl rfl rfl rfl rfl rfl rfl rfl rfl rfl rfl (fun w hm _ => hm.blk_rd (i := 0) rfl) (by simp; omega) (by simp; omega) (fun A2 c2 => ?_))
          refine VC_sound tabOk 100 ?_
          (first | refine Or.inl ⟨rfl, rfl, ?_⟩ | refine Or.inr (Or.inl ⟨rfl, rfl, ?_⟩) | refine Or.inr (Or.inr (Or.inl ⟨rfl, rfl, ?_⟩)) | refine Or.inr (Or.inr (Or.inr (Or.inl ⟨rfl, rfl, ?_⟩))))
          refine ⟨_, wrap_i64 (n := (i : Int) + 1) (by omega) (by omega), ?_⟩
          have e : ofIn op n (i + 1) = ofIn op n i ++ [(n : Int) + 1] := by rw [hs]; have : ofP n op[i] = true := h3; simp [this]; simpa using h4
          refine Go_fin (i + 1, A2, c2) (by simp; omega) (by simp; omega) ⟨rfl, rfl, rfl, rfl, rfl, trivial⟩ (fun _ h => ?_)
          have h := h.sel [1, 2, 3] rfl
          simp only [e, List.length_append, List.length_cons, List.length_nil] at h ⊢
          exact h
        · have e : ofIn op n (i + 1) = ofIn op n i := by rw [hs, h4, Bool.and_false]; rfl
          refine ⟨_, wrap_i64 (n := (i : Int) + 1) (by omega) (by omega), ?_⟩
          refine Go_fin (i + 1, A1, c1) (by simp; omega) (by simp; omega) ⟨rfl, rfl, rfl, rfl, rfl, trivial⟩ (fun _ h => by simpa only [e] using h)
      · refine ⟨_, wrap_i64 (n := (i : Int) + 1) (by omega) (by omega), ?_⟩
        have e : ofIn op n (i + 1) = ofIn op n i := by rw [hs]; have : ofP n op[i] = false := h3; simp [this]
        refine Go_fin (i + 1, A1, c1) (by simp; omega) (by simp; omega) ⟨rfl, rfl, rfl, rfl, rfl, trivial⟩ (fun _ h => by simpa only [e] using h)
    · have hge : op.length ≤ i := by simpa using h2
      refine ⟨_, wrap_i64 (n := ((n : Int) + 1) + 1) (by omega) (by omega), ?_⟩
      refine Go_fin (n + 1, A1, c1) (by simp; omega) (by simp; omega) ⟨rfl, rfl, rfl, rfl, trivial⟩ (fun _ h => by simpa only [ofIn_all op n i hge] using h)
  · have e : n = K := by simp at h1; omega
    subst e
    (repeat (first | refine Or.inl ⟨rfl, rfl, ?_⟩ | refine Or.inl ⟨rfl, ?_⟩ | refine Or.inr ?_))
    exact Some_.sel [0] rfl ⟨_, _, rfl, rfl⟩
end Go.Proofs.Ytkhnnaekinoghaa
