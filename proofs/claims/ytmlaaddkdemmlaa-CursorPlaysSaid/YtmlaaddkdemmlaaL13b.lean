/- The laws CursorNil, CursorFull, CursorNames: what each run comes to. -/
import Derived.Test.YtmlaaddkdemmlaaCurLift
set_option autoImplicit false
set_option linter.unusedVariables false
namespace Go.Proofs.Ytmlaaddkdemmlaa
open Go.RX Go Go.RowKit


set_option maxHeartbeats 2000000 in
theorem l13_CursorNil (s : ByteArray) (n : Int) (w0 : World) : Calls Try.prog 8 #[.string s, .int .i64 n] w0 fun e w' => e = .returned (.bool true) ∧ BelowD w0.heap.size w0 w' := by
  refine enterP (tab := tab) Try.func8 rfl Try.ntmps8 rfl (args := [_, _]) rfl ?_
  refine VC_sound tabOk 100 ?_
  refine ⟨fun h => ?_, fun h => ?_⟩
  · refine Go_ops rfl (OpTo_pcall (v := .bool true) rfl rfl rfl rfl rfl (by kernel_rfl) (fun w hm _ => l13_done w) ?_)
    refine VC_sound tabOk 100 ?_
    rfl
  refine Go_ops rfl (OpTo_pcall (v := .tuple #[mkC ⟨⟨#[]⟩, 0, 0⟩, .bool false]) rfl rfl rfl rfl rfl (by kernel_rfl) (fun w hm _ => cu_get_nil s w) ?_)
  refine VC_sound tabOk 100 ?_
  intro b6 _
  (repeat (first | refine Or.inl ⟨rfl, rfl, ?_⟩ | refine Or.inl ⟨rfl, ?_⟩ | refine Or.inr ?_))
  refine Go_ops rfl (OpTo_pcall (v := .tuple #[.int .i64 0, .bool false]) rfl rfl rfl rfl rfl (by kernel_rfl) (fun w hm _ => cu_least_nil w) ?_)
  refine VC_sound tabOk 100 ?_
  refine Go_ops rfl (OpTo_pcall (v := .tuple #[.int .i64 0, .int .i64 4]) rfl rfl rfl rfl rfl (by kernel_rfl) (fun w hm _ => cu_finish_nil s w) ?_)
  refine VC_sound tabOk 100 ?_
  refine Go_ops rfl (OpTo_pcall (v := .bool true) rfl rfl rfl rfl rfl (by kernel_rfl) (fun w hm _ => l13_done w) ?_)
  refine VC_sound tabOk 100 ?_
  refine ⟨fun _ => ?_, fun h => by first | (simp at h; done) | (simp at h; omega) | (simp_all; done)⟩
  refine Go_ops rfl (OpTo_pcall (v := .int .i64 4) rfl rfl rfl rfl rfl (by kernel_rfl) (fun w hm _ => cu_register_nil s n w) ?_)
  refine VC_sound tabOk 100 ?_
  refine ⟨fun _ => ?_, fun h => by first | (simp at h; done) | (simp at h; omega) | (simp_all; done)⟩
  refine Go_ops rfl (OpTo_pcall (v := .int .i64 4) rfl rfl rfl rfl rfl (by kernel_rfl) (fun w hm _ => cu_unregister_nil s w) ?_)
  refine VC_sound tabOk 100 ?_
  refine ⟨fun _ => ?_, fun h => by first | (simp at h; done) | (simp at h; omega) | (simp_all; done)⟩
  refine Go_ops rfl (OpTo_pcall (v := .int .i64 4) rfl rfl rfl rfl rfl (by kernel_rfl) (fun w hm _ => cu_open_nil s n w) ?_)
  refine VC_sound tabOk 100 ?_
  refine ⟨fun _ => ?_, fun h => by first | (simp at h; done) | (simp at h; omega) | (simp_all; done)⟩
  refine ⟨fun _ => ?_, fun h => by first | (simp at h; done) | (simp at h; omega) | (simp_all; done)⟩
  refine ⟨fun _ => ?_, fun h => by first | (simp at h; done) | (simp at h; omega) | (simp_all; done)⟩
  refine ⟨fun _ => ?_, fun h => by first | (simp at h; done) | (simp at h; omega) | (simp_all; done)⟩
  refine Go_ops rfl (OpTo_pcall (v := .slice none 0 0) rfl rfl rfl rfl rfl (by kernel_rfl) (fun w hm _ => cu_all_nil w) ?_)
  refine VC_sound tabOk 100 ?_
  rfl

/-! ### names of one letter -/
def nm (i : Nat) : ByteArray := ⟨#[UInt8.ofNat (97 + i)]⟩
theorem nm_of (i : Nat) : bytesOf [97 + (i : Int)] = nm i := by
  have : (97 + (i : Int)).toNat = 97 + i := by omega
  simp [bytesOf, nm, this]
  rfl
theorem nm_size (i : Nat) : (nm i).size = 1 := rfl
theorem nm_inj {i j : Nat} (hi : i < 100) (hj : j < 100) : nm i = nm j ↔ i = j := by
  constructor
  · intro h
    have h1 : (nm i).data.toList = (nm j).data.toList := by rw [h]
    simp only [nm, List.cons.injEq, and_true] at h1
    have h2 := congrArg UInt8.toNat h1
    simp only [UInt8.toNat_ofNat'] at h2
    omega
  · rintro rfl; rfl

theorem regE_nm {i : Nat} {al : List (ByteArray × Nat)} : regE (nm i) 1 al = if (aget (nm i) al).isSome = true then 5 else if 4 ≤ al.length then 8 else 0 := by
  rw [regE, if_neg (by rw [nm_size]; omega)]

theorem aget_names (cs : Cs) (k : ByteArray) : (aget k (alOf cs)).isSome = true ↔ k ∈ names cs := by
  rw [← keys_alOf]
  cases h : aget k (alOf cs) with
  | none => simp [aget_none.1 h]
  | some q => simp only [Option.isSome_some, true_iff]; exact List.mem_map.2 ⟨_, aget_mem h, rfl⟩

theorem regE_nm_in {i : Nat} {cs : Cs} (h : nm i ∈ names cs) : regE (nm i) 1 (alOf cs) = 5 := by
  rw [regE_nm, if_pos ((aget_names cs _).2 h)]
theorem regE_nm_out {i : Nat} {cs : Cs} (h : ¬ nm i ∈ names cs) : regE (nm i) 1 (alOf cs) = if 4 ≤ cs.length then 8 else 0 := by
  have : (alOf cs).length = cs.length := by simp [alOf]
  rw [regE_nm, if_neg (fun hh => h ((aget_names cs _).1 hh)), this]

theorem mem_nms {i : Nat} (hi : i < 100) {l : List Nat} (hl : ∀ j ∈ l, j < 100) : nm i ∈ l.map nm ↔ i ∈ l := by
  constructor
  · intro h
    obtain ⟨j, hj, e⟩ := List.mem_map.1 h
    rw [(nm_inj (hl j hj) hi).1 e] at hj
    exact hj
  · exact fun h => List.mem_map.2 ⟨i, h, rfl⟩

theorem names_del (cs : Cs) (k : ByteArray) : names (delSt k cs) = (names cs).filter fun x => !decide (x = k) := by
  simp only [names, delSt, List.filter_map]; rfl
theorem filter_nms {K : Nat} (hK : K < 100) : ∀ {l : List Nat}, (∀ j ∈ l, j < 100) → ((l.map nm).filter fun x => !decide (x = nm K)) = (l.filter fun j => !decide (j = K)).map nm
  | [], _ => rfl
  | j :: r, hl => by
    have ih := filter_nms hK (l := r) fun j hj => hl j (by simp [hj])
    have hj := hl j (by simp)
    by_cases h : j = K
    · subst h; simp [ih]
    · have h' : ¬ nm j = nm K := fun e => h ((nm_inj hj hK).1 e)
      simp [h, h', ih]

set_option maxHeartbeats 4000000 in
theorem l13_CursorFull (n : Int) (w0 : World) (hn : 0 ≤ n ∧ n ≤ 255) : Calls Try.prog 5 #[.int .u8 n] w0 fun e w' => e = .returned (.bool true) ∧ BelowD w0.heap.size w0 w' := by
  obtain ⟨K, hK, hK4⟩ : ∃ K : Nat, n.tmod 4 = K ∧ K < 4 := by
    have h1 := Int.tmod_nonneg 4 hn.1
    have h2 := Int.tmod_lt_of_pos n (b := 4) (by decide)
    exact ⟨(n.tmod 4).toNat, by omega, by omega⟩
  refine enterP (tab := tab) Try.func5 rfl Try.ntmps5 rfl (args := [_]) rfl ?_
  refine VC_sound tabOk 100 ?_
  refine Go_ops rfl (OpTo_pcall (v := .bool true) rfl rfl rfl rfl rfl (by kernel_rfl) (fun w hm _ => l13_done w) ?_)
  refine VC_sound tabOk 100 ?_
  refine ⟨fun h => by first | (simp at h; done) | (simp at h; omega) | (simp_all; done), fun _ => ?_⟩
  show Go _ _ _ _
  refine Go_ops rfl (OpTo_ncall rfl rfl rfl rfl rfl (by kernel_rfl) (fun w hm _ => cu_new w) ?_)
  rintro _ _ ⟨b, bm, rfl, rfl⟩
  refine VC_sound tabOk 100 ?_
  refine Go_loop (σ := Nat × Cs) (fun s => [(0, .v (.int .u8 n)), (3, .v (ptrV b)), (4, .v (.int .i64 s.1))]) (fun s => cuR b bm s.2) (fun s => s.1 ≤ 6 ∧ names s.2 = (List.range (min s.1 4)).map nm) (fun s => 6 - s.1) (0, []) (by simp [names]) ⟨rfl, rfl, rfl, trivial⟩ (fun _ h => h) ?_
  rintro ⟨i, cs⟩ ⟨hi, hnames⟩
  dsimp only at hi hnames ⊢
  have hcl : cs.length = min i 4 := by have := congrArg List.length hnames; simpa [names] using this
  refine VC_sound tabOk 100 ?_
  refine ⟨fun hb => ?_, fun hb => ?_⟩
  · have hlt : i < 6 := by simp at hb; omega
    refine ⟨_, wrap_u8 (n := (i : Int)) (by omega) (by omega), ?_⟩
    refine ⟨_, wrap_u8 (n := 97 + (i : Int)) (by omega) (by omega), ?_⟩
    intro b18 _
    refine Go_ops rfl (OpTo_bytesStr tabOk (ns := [97 + (i : Int)]) rfl rfl rfl rfl rfl rfl (fun w hm _ => hm.blk_rd (i := 0) rfl) ?_)
    rw [nm_of]
    refine VC_sound tabOk 100 ?_
    have hmem : ¬ nm i ∈ names cs := by
      rw [hnames, mem_nms (by omega) (fun j hj => by simp at hj; omega)]
      simp; omega
    by_cases h4 : i < 4
    · have hr : regE (nm i) 1 (alOf cs) = 0 := by rw [regE_nm_out hmem, if_neg (by omega)]
      show Go _ _ _ _
      refine Go_ops rfl (OpTo_mcall (Qc := fun v Rs' => v = .int .i64 0 ∧ ∃ q, Rs' = cuR b bm (cs ++ [(⟨nm i, 1, 0⟩, q)])) (cuR b bm cs) [_] (List.perm_append_comm (l₁ := [_]) (l₂ := cuR b bm cs)) rfl rfl rfl rfl rfl (by kernel_rfl) (fun w hb hm hio hsp k => (cuR_register b bm cs (nm i) 1 w _ k).mono fun e w' ⟨v, Rs', g1, ⟨g2, q, g3⟩, g4, g5⟩ => ⟨v, Rs', g1, ⟨by rw [g2, hr], q, by rw [g3, regSt, if_pos hr]⟩, g4, g5⟩) ?_)
      rintro _ _ ⟨rfl, q, rfl⟩
      refine VC_sound tabOk 100 ?_
      refine ⟨fun h => by first | (simp at h; done) | (simp at h; omega) | (simp_all; done), fun _ => ?_⟩
      refine ⟨fun h => by first | (simp at h; done) | (simp at h; omega) | (simp_all; done), fun _ => ?_⟩
      refine ⟨_, wrap_i64 (n := (i : Int) + 1) (by omega) (by omega), ?_⟩
      refine Go_fin (i + 1, cs ++ [(⟨nm i, 1, 0⟩, q)]) ⟨by simp; omega, ?_⟩ (by simp; omega) ⟨rfl, rfl, rfl, trivial⟩ (fun _ h => h.less (List.sublist_append_left _ _))
      have e1 : min i 4 = i := by omega
      have e2 : min (i + 1) 4 = i + 1 := by omega
      simp only [e2, List.range_succ, List.map_append]
      rw [e1] at hnames
      simp only [names] at hnames ⊢
      rw [hnames]
      rfl
    · have hr : regE (nm i) 1 (alOf cs) = 8 := by rw [regE_nm_out hmem, if_pos (by omega)]
      show Go _ _ _ _
      refine Go_ops rfl (OpTo_mcall (Qc := fun v Rs' => v = .int .i64 8 ∧ Rs' = cuR b bm cs) (cuR b bm cs) [_] (List.perm_append_comm (l₁ := [_]) (l₂ := cuR b bm cs)) rfl rfl rfl rfl rfl (by kernel_rfl) (fun w hb hm hio hsp k => (cuR_register b bm cs (nm i) 1 w _ k).mono fun e w' ⟨v, Rs', g1, ⟨g2, q, g3⟩, g4, g5⟩ => ⟨v, Rs', g1, ⟨by rw [g2, hr], by rw [g3, regSt, if_neg (by rw [hr]; decide)]⟩, g4, g5⟩) ?_)
      rintro _ _ ⟨rfl, rfl⟩
      refine VC_sound tabOk 100 ?_
      refine ⟨fun h => by first | (simp at h; done) | (simp at h; omega) | (simp_all; done), fun _ => ?_⟩
      refine ⟨fun _ => ?_, fun h => by first | (simp at h; done) | (simp at h; omega) | (simp_all; done)⟩
      refine ⟨fun h => by first | (simp at h; done) | (simp at h; omega) | (simp_all; done), fun _ => ?_⟩
      refine ⟨_, wrap_i64 (n := (i : Int) + 1) (by omega) (by omega), ?_⟩
      refine Go_fin (i + 1, cs) ⟨by simp; omega, ?_⟩ (by simp; omega) ⟨rfl, rfl, rfl, trivial⟩ (fun _ h => h.less (List.sublist_append_left _ _))
      have e1 : min i 4 = 4 := by omega
      have e2 : min (i + 1) 4 = 4 := by omega
      simp only [e2]
      rw [e1] at hnames
      exact hnames
  · have he : i = 6 := by simp at hb; omega
    subst he
    have hnames : names cs = [0, 1, 2, 3].map nm := hnames
    have hcl : cs.length = 4 := hcl
    refine ⟨by decide, _, hK.symm, ?_⟩
    refine ⟨_, wrap_u8 (n := 97 + (K : Int)) (by omega) (by omega), ?_⟩
    intro b37 _
    refine Go_ops rfl (OpTo_bytesStr tabOk (ns := [97 + (K : Int)]) rfl rfl rfl rfl rfl rfl (fun w hm _ => hm.blk_rd (i := 0) rfl) ?_)
    rw [nm_of]
    refine VC_sound tabOk 100 ?_
    have hlow : ∀ j ∈ [0, 1, 2, 3], j < 100 := by intro j hj; simp at hj; omega
    have hmem : nm K ∈ names cs := by
      rw [hnames, mem_nms (by omega) hlow]
      simp; omega
    have hr : regE (nm K) 1 (alOf cs) = 5 := by exact regE_nm_in hmem
    have hsome : (aget (nm K) (alOf cs)).isSome = true := (aget_names cs _).2 hmem
    have hdel : names (delSt (nm K) cs) = ([0, 1, 2, 3].filter fun j => !decide (j = K)).map nm := by rw [names_del, hnames, filter_nms (by omega) hlow]
    have hnot : ¬ nm K ∈ names (delSt (nm K) cs) := by rw [names_del]; simp
    have hsome2 : (aget (nm K) (alOf (delSt (nm K) cs))).isSome = false := by
      cases hx : (aget (nm K) (alOf (delSt (nm K) cs))).isSome with
      | false => rfl
      | true => exact absurd ((aget_names _ _).1 hx) hnot
    have hdl : (delSt (nm K) cs).length = 3 := by
      have e1 := congrArg List.length hdel
      simp only [names, List.length_map] at e1
      rw [e1]
      rcases (by omega : K = 0 ∨ K = 1 ∨ K = 2 ∨ K = 3) with rfl | rfl | rfl | rfl <;> rfl
    have hdd : delSt (nm K) (delSt (nm K) cs) = delSt (nm K) cs := by simp [delSt, List.filter_filter]
    have hz : regE ⟨#[122]⟩ 1 (alOf (delSt (nm K) cs)) = 0 := by
      have e0 : (⟨#[122]⟩ : ByteArray) = nm 25 := rfl
      have hno : ¬ nm 25 ∈ names (delSt (nm K) cs) := by
        rw [hdel, mem_nms (by omega) (fun j hj => hlow j (List.mem_filter.1 hj).1)]
        simp
      rw [e0, regE_nm_out hno, if_neg (by omega)]
    show Go _ _ _ _
    refine Go_ops rfl (OpTo_mcall (Qc := fun v Rs' => v = .int .i64 5 ∧ Rs' = cuR b bm cs) (cuR b bm cs) [_] (List.perm_append_comm (l₁ := [_]) (l₂ := cuR b bm cs)) rfl rfl rfl rfl rfl (by kernel_rfl) (fun w hb hm hio hsp k => (cuR_register b bm cs (nm K) 1 w _ k).mono fun e w' ⟨v, Rs', g1, ⟨g2, q, g3⟩, g4, g5⟩ => ⟨v, Rs', g1, ⟨by rw [g2, hr], by rw [g3, regSt, if_neg (by rw [hr]; decide)]⟩, g4, g5⟩) ?_)
    rintro _ _ ⟨rfl, rfl⟩
    refine VC_sound tabOk 100 ?_
    refine ⟨fun _ => ?_, fun h => by first | (simp at h; done) | (simp at h; omega) | (simp_all; done)⟩
    show Go _ _ _ _
    refine Go_ops rfl (OpTo_mcall (Qc := fun v Rs' => v = .int .i64 0 ∧ Rs' = cuR b bm (delSt (nm K) cs)) (cuR b bm cs) [_] (List.Perm.refl _) rfl rfl rfl rfl rfl (by kernel_rfl) (fun w hb hm hio hsp k => (cuR_unregister b bm cs (nm K) w _ k).mono fun e w' ⟨v, Rs', g1, ⟨g2, g3⟩, g4, g5⟩ => ⟨v, Rs', g1, ⟨by rw [g2, hsome]; rfl, g3⟩, g4, g5⟩) ?_)
    rintro _ _ ⟨rfl, rfl⟩
    refine VC_sound tabOk 100 ?_
    refine ⟨fun _ => ?_, fun h => by first | (simp at h; done) | (simp at h; omega) | (simp_all; done)⟩
    show Go _ _ _ _
    refine Go_ops rfl (OpTo_mcall (Qc := fun v Rs' => v = .int .i64 4 ∧ Rs' = cuR b bm (delSt (nm K) cs)) (cuR b bm (delSt (nm K) cs)) [_] (List.Perm.refl _) rfl rfl rfl rfl rfl (by kernel_rfl) (fun w hb hm hio hsp k => (cuR_unregister b bm (delSt (nm K) cs) (nm K) w _ k).mono fun e w' ⟨v, Rs', g1, ⟨g2, g3⟩, g4, g5⟩ => ⟨v, Rs', g1, ⟨by rw [g2, hsome2]; rfl, by rw [g3, hdd]⟩, g4, g5⟩) ?_)
    rintro _ _ ⟨rfl, rfl⟩
    refine VC_sound tabOk 100 ?_
    refine ⟨fun _ => ?_, fun h => by first | (simp at h; done) | (simp at h; omega) | (simp_all; done)⟩
    show Go _ _ _ _
    refine Go_ops rfl (OpTo_mcall (Qc := fun v Rs' => v = .int .i64 0 ∧ ∃ q, Rs' = cuR b bm (delSt (nm K) cs ++ [(⟨⟨#[122]⟩, 1, 0⟩, q)])) (cuR b bm (delSt (nm K) cs)) [_] (List.Perm.refl _) rfl rfl rfl rfl rfl (by kernel_rfl) (fun w hb hm hio hsp k => (cuR_register b bm (delSt (nm K) cs) ⟨#[122]⟩ 1 w _ k).mono fun e w' ⟨v, Rs', g1, ⟨g2, q, g3⟩, g4, g5⟩ => ⟨v, Rs', g1, ⟨by rw [g2, hz], q, by rw [g3, regSt, if_pos hz]⟩, g4, g5⟩) ?_)
    rintro _ _ ⟨rfl, q, rfl⟩
    refine VC_sound tabOk 100 ?_
    refine ⟨fun _ => ?_, fun h => by first | (simp at h; done) | (simp at h; omega) | (simp_all; done)⟩
    show Go _ _ _ _
    refine Go_ops rfl (OpTo_mcall (cuR b bm (delSt (nm K) cs ++ [(⟨⟨#[122]⟩, 1, 0⟩, q)])) [_] (List.Perm.refl _) rfl rfl rfl rfl rfl (by kernel_rfl) (fun w hb hm hio hsp k => cu_all b bm _ (by simp; omega) w _ k) ?_)
    rintro _ _ ⟨A, c, ys, rfl, hp, hr2, rfl⟩
    refine VC_sound tabOk 100 ?_
    have hyl : ys.length = 4 := by have := hp.length_eq; simp at this; omega
    rw [hyl]
    rfl
end Go.Proofs.Ytmlaaddkdemmlaa
