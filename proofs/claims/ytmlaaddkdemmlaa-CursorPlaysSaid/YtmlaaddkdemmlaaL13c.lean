/- The law CursorNames: what its run comes to. -/
import Derived.Test.YtmlaaddkdemmlaaL13b
set_option autoImplicit false
set_option linter.unusedVariables false
namespace Go.Proofs.Ytmlaaddkdemmlaa
open Go.RX Go Go.RowKit


theorem sameBy_of_perm {ys zs : List CurV} (hp : ys.Perm zs) (hn : (ys.map CurV.name).Nodup) : SameBy CurV.name ys zs := by
  intro k
  have hf := hp.filter fun x => decide (x.name = k)
  have h1 : ((ys.filter fun x => decide (x.name = k)).map CurV.name).Nodup := hn.sublist (List.filter_sublist.map _)
  have hall : ∀ x ∈ ys.filter fun x => decide (x.name = k), x.name = k := fun x hx => by simpa using (List.mem_filter.1 hx).2
  generalize (ys.filter fun x => decide (x.name = k)) = F at h1 hall hf ⊢
  match F, h1, hall, hf with
  | [], _, _, hf => exact hf.symm.eq_nil.symm
  | [a], _, _, hf => exact hf.symm.eq_singleton.symm
  | a :: b :: r, h1, hall, _ =>
    have ha := hall a (by simp)
    have hb := hall b (by simp)
    simp [ha, hb] at h1

theorem rise_uniq {ys zs : List CurV} (hp : ys.Perm zs) (hn : (ys.map CurV.name).Nodup) (h1 : Rise ltS CurV.name ys) (h2 : Rise ltS CurV.name zs) : ys = zs := Rise.unique ordS h1 h2 (sameBy_of_perm hp hn)

theorem rise_strict {ys : List CurV} (h : Rise ltS CurV.name ys) (hn : (ys.map CurV.name).Nodup) {i j : Nat} (hi : i < j) (hj : j < ys.length) : ltS (ys[i]'(by omega)).name ys[j].name = true := by
  rw [Rise, List.pairwise_iff_getElem] at h
  have h1 := h i j (by omega) hj hi
  cases h2 : ltS (ys[i]'(by omega)).name ys[j].name with
  | true => rfl
  | false =>
    have e := ordS.tri _ _ h2 h1
    rw [List.nodup_iff_pairwise_ne, List.pairwise_map, List.pairwise_iff_getElem] at hn
    exact absurd e (hn i j (by omega) hj hi)

theorem foldl_minF : ∀ (ys : List CurV) (n : Int), ys.foldl minF n ≤ n ∧ ∀ x ∈ ys, ys.foldl minF n ≤ x.last
  | [], n => ⟨Int.le_refl _, fun x hx => by cases hx⟩
  | y :: r, n => by
    obtain ⟨h1, h2⟩ := foldl_minF r (minF n y)
    have h3 : minF n y ≤ n ∧ minF n y ≤ y.last := by unfold minF; split <;> omega
    simp only [List.foldl_cons]
    refine ⟨by omega, fun x hx => ?_⟩
    rcases List.mem_cons.1 hx with rfl | hx
    · omega
    · exact h2 x hx
theorem minL_le {ys : List CurV} {x : CurV} (hx : x ∈ ys) : minL ys ≤ x.last := by
  cases ys with
  | nil => cases hx
  | cons y r => exact (foldl_minF (y :: r) y.last).2 x hx

def neg (x : CurV) : CurV := ⟨x.name, -1, x.opn⟩
def negs (ys : List CurV) (i : Nat) : List CurV := (ys.take i).map neg ++ ys.drop i
theorem negs_len (ys : List CurV) (i : Nat) (h : i ≤ ys.length) : (negs ys i).length = ys.length := by simp [negs]; omega
theorem negs_at (ys : List CurV) (i : Nat) (h : i < ys.length) : (negs ys i)[i]? = some ys[i] := by
  rw [negs, List.getElem?_append_right (by simp; omega)]
  have : i - ((ys.take i).map neg).length = 0 := by simp; omega
  rw [this, List.getElem?_drop]
  simp [h]
theorem negs_set (ys : List CurV) (i : Nat) (h : i < ys.length) : (negs ys i).set i (neg ys[i]) = negs ys (i + 1) := by
  have hl : ((ys.take i).map neg).length = i := by simp; omega
  have hd : ys.drop i = ys[i] :: ys.drop (i + 1) := List.drop_eq_getElem_cons h
  rw [negs, negs, List.take_succ_eq_append_getElem h, List.map_append, hd, List.set_append, if_neg (by omega), hl, Nat.sub_self, List.set_cons_zero]
  simp

theorem regSt_len (name : ByteArray) (at_ : Int) (q : Nat) (cs : Cs) (h : cs.length ≤ 4) : (regSt name at_ q cs).length ≤ 4 := by
  unfold regSt
  split
  · rename_i h0
    have := (regE_new h0).2
    simp; omega
  · exact h
theorem delSt_len (name : ByteArray) (cs : Cs) : (delSt name cs).length ≤ cs.length := List.length_filter_le _ _

set_option maxHeartbeats 4000000 in
theorem l13_CursorNames (A : Option Addr) (c : Nat) (l : List Int) (w0 : World) (hA : RdW w0 A (l.flatMap (encI .u8))) : Calls Try.prog 6 #[.slice A l.length c] w0 fun e w' => e = .returned (.bool true) ∧ BelowD w0.heap.size w0 w' := by
  refine enterP (tab := tab) Try.func6 rfl Try.ntmps6 rfl (args := [_]) rfl ?_
  refine VC_sound tabOk 100 ?_
  refine Go_ops rfl (OpTo_pcall (v := .bool true) rfl rfl rfl rfl rfl (by kernel_rfl) (fun w hm _ => l13_done w) ?_)
  refine VC_sound tabOk 100 ?_
  refine ⟨fun h => by first | (simp at h; done) | (simp at h; omega) | (simp_all; done), fun _ => ?_⟩
  refine ⟨fun h => ?_, fun h => ?_⟩
  · refine Go_ops rfl (OpTo_pcall (v := .bool true) rfl rfl rfl rfl rfl (by kernel_rfl) (fun w hm _ => l13_done w) ?_)
    refine VC_sound tabOk 100 ?_
    rfl
  have hlen : l.length ≤ 40 := by simp at h; omega
  show Go _ _ _ _
  refine Go_ops rfl (OpTo_ncall rfl rfl rfl rfl rfl (by kernel_rfl) (fun w hm _ => cu_new w) ?_)
  rintro _ _ ⟨b, bm, rfl, rfl⟩
  refine VC_sound tabOk 100 ?_
  refine Go_loop (σ := Nat × Cs) (fun s => [(0, .v (.slice A l.length c)), (3, .v (ptrV b)), (4, .v (.int .i64 s.1))]) (fun s => cuR b bm s.2) (fun s => s.1 ≤ l.length ∧ s.2.length ≤ 4) (fun s => l.length - s.1) (0, []) (by simp) ⟨rfl, rfl, rfl, trivial⟩ (fun _ h => h) ?_
  rintro ⟨i, cs⟩ ⟨hi, hcl⟩
  dsimp only at hi hcl ⊢
  refine VC_sound tabOk 100 ?_
  refine ⟨fun hb => ?_, fun hb => ?_⟩
  · have hlt : i < l.length := by simp at hb; omega
    obtain ⟨a, o, rfl⟩ := RdW.some (encI_is .u8) hA (ne_nil_of_lt (by omega : 0 < l.length))
    refine ⟨⟨by omega, by omega⟩, ?_⟩
    refine Or.inr (findR_E ?_)
    refine Go_ops rfl (OpTo_loadRow tabOk (encI_is .u8) (.int .u8 l[i]) rfl rfl rfl rfl rfl (fun h => rfl) (fun w hm _ => hA.mod hm) (List.getElem?_eq_getElem hlt) (by simp only [addA]; rfl) ?_)
    refine VC_sound tabOk 100 ?_
    intro b32 _
    refine Go_ops rfl (OpTo_bytesStr tabOk (ns := [l[i]]) rfl rfl rfl rfl rfl rfl (fun w hm _ => hm.blk_rd (i := 0) rfl) ?_)
    refine VC_sound tabOk 100 ?_
    refine ⟨_, wrap_i64 (n := 1 + (i : Int)) (by omega) (by omega), ?_⟩
    show Go _ _ _ _
    refine Go_ops rfl (OpTo_mcall (Qc := fun v Rs' => (∃ e, v = .int .i64 e) ∧ ∃ q, Rs' = cuR b bm (regSt (bytesOf [l[i]]) (1 + (i : Int)) q cs)) (cuR b bm cs) [_] (List.perm_append_comm (l₁ := [_]) (l₂ := cuR b bm cs)) rfl rfl rfl rfl rfl (by kernel_rfl) (fun w hb hm hio hsp k => (cuR_register b bm cs (bytesOf [l[i]]) (1 + (i : Int)) w _ k).mono fun e w' ⟨v, Rs', g1, ⟨g2, g3⟩, g4, g5⟩ => ⟨v, Rs', g1, ⟨⟨_, g2⟩, g3⟩, g4, g5⟩) ?_)
    rintro _ _ ⟨⟨e, rfl⟩, q, rfl⟩
    have hcl1 := regSt_len (bytesOf [l[i]]) (1 + (i : Int)) q cs hcl
    generalize regSt (bytesOf [l[i]]) (1 + (i : Int)) q cs = cs1 at hcl1 ⊢
    refine VC_sound tabOk 100 ?_
    refine ⟨by decide, _, rfl, ?_⟩
    refine ⟨fun h5 => ?_, fun h5 => ?_⟩
    · have hd : (i : Int).tdiv 2 = ((i / 2 : Nat) : Int) := by rw [Int.tdiv_eq_ediv_of_nonneg (by omega)]; omega
      have hlt2 : i / 2 < l.length := by omega
      refine ⟨by decide, ((i / 2 : Nat) : Int), by rw [hd]; exact wrap_i64 (by omega) (by omega), ?_⟩
      refine ⟨⟨by omega, by omega⟩, ?_⟩
      refine Or.inr (findR_E ?_)
      refine Go_ops rfl (OpTo_loadRow tabOk (encI_is .u8) (.int .u8 l[i / 2]) rfl rfl rfl rfl rfl (fun h => rfl) (fun w hm _ => hA.mod hm) (List.getElem?_eq_getElem hlt2) (by simp only [addA]; rfl) ?_)
      refine VC_sound tabOk 100 ?_
      intro b46 _
      refine Go_ops rfl (OpTo_bytesStr tabOk (ns := [l[i / 2]]) rfl rfl rfl rfl rfl rfl (fun w hm _ => hm.blk_rd (i := 0) rfl) ?_)
      refine VC_sound tabOk 100 ?_
      show Go _ _ _ _
      refine Go_ops rfl (OpTo_mcall (Qc := fun v Rs' => (∃ e, v = .int .i64 e) ∧ Rs' = cuR b bm (delSt (bytesOf [l[i / 2]]) cs1)) (cuR b bm cs1) [_, _] ((List.Perm.of_eq rfl).trans ((List.perm_append_comm (l₁ := [_]) (l₂ := cuR b bm cs1 ++ [_])).trans (List.Perm.of_eq (by rw [List.append_assoc]; rfl)))) rfl rfl rfl rfl rfl (by kernel_rfl) (fun w hb hm hio hsp k => (cuR_unregister b bm cs1 (bytesOf [l[i / 2]]) w _ k).mono fun e w' ⟨v, Rs', g1, ⟨g2, g3⟩, g4, g5⟩ => ⟨v, Rs', g1, ⟨⟨_, g2⟩, g3⟩, g4, g5⟩) ?_)
      rintro _ _ ⟨⟨e2, rfl⟩, rfl⟩
      have hcl2 := delSt_len (bytesOf [l[i / 2]]) cs1
      refine VC_sound tabOk 100 ?_
      refine ⟨_, wrap_i64 (n := (i : Int) + 1) (by omega) (by omega), ?_⟩
      exact Go_fin (i + 1, delSt (bytesOf [l[i / 2]]) cs1) ⟨by omega, Nat.le_trans hcl2 hcl1⟩ (by simp; omega) ⟨rfl, rfl, rfl, trivial⟩ (fun _ h => h.less (List.sublist_append_left _ _))
    · refine ⟨_, wrap_i64 (n := (i : Int) + 1) (by omega) (by omega), ?_⟩
      exact Go_fin (i + 1, cs1) ⟨by omega, by omega⟩ (by simp; omega) ⟨rfl, rfl, rfl, trivial⟩ (fun _ h => h.less (List.sublist_append_left _ _))
  · refine Go_ops rfl (OpTo_mcall (cuR b bm cs) [] (List.Perm.of_eq (by simp)) rfl rfl rfl rfl rfl (by kernel_rfl) (fun w hb hm hio hsp k => cu_all b bm cs (by omega) w _ k) ?_)
    rintro _ _ ⟨B, d, ys, rfl, hp, hr, rfl⟩
    have hyl : ys.length = cs.length := by have := hp.length_eq; simpa using this
    refine Go_res (own encC 3 29 B d ys :: cuR b bm cs) (fun _ h => h.permRs (List.Perm.of_eq (List.append_nil _))) ?_
    refine Go_with _ (fun w hm _ => hm.mp_nodup (i := 2) rfl) ?_
    intro hnd
    rw [keys_alOf] at hnd
    have hyn : (ys.map CurV.name).Nodup := by
      have h1 : (ys.map CurV.name).Perm ((cs.map (·.1)).map CurV.name) := hp.map _
      rw [List.map_map] at h1
      exact h1.nodup_iff.2 hnd
    have uniq : ∀ zs : List CurV, zs.Perm (cs.map (·.1)) → Rise ltS CurV.name zs → zs = ys := fun zs h1 h2 => (rise_uniq (hp.trans h1.symm) hyn hr h2).symm
    refine VC_sound tabOk 100 ?_
    refine Go_loop (σ := Nat) (fun i => [(3, .v (ptrV b)), (5, .v (.slice B ys.length d)), (6, .v (.int .i64 i))]) (fun _ => own encC 3 29 B d ys :: cuR b bm cs) (fun i => 1 ≤ i ∧ i ≤ ys.length + 1) (fun i => ys.length + 1 - i) 1 (by omega) ⟨rfl, rfl, rfl, trivial⟩ (fun _ h => h) ?_
    intro i hi
    dsimp only at hi ⊢
    by_cases hlt : i < ys.length
    · refine Go_with _ (fun w hm _ => hm.own_some (i := 0) rfl (ne_nil_of_lt (by omega : 0 < ys.length))) ?_
      rintro ⟨a, o, rfl⟩
      have hs := rise_strict hr hyn (by omega : i - 1 < i) hlt
      have hidx : ((i : Int) - 1).toNat = i - 1 := by omega
      refine VC_sound tabOk 100 ?_
      refine ⟨fun _ => ?_, fun h => by first | (simp at h; done) | (simp at h; omega) | (simp_all; done)⟩
      show Go _ _ _ _
      refine Go_any mixed [] [(0, false), (1, false), (2, false), (3, false), (4, false), (6, false), (7, false), (8, false), (9, false), (5, false), (10, false), (11, false)] rfl (by kernel_rfl) (by kernel_rfl) [] (fun w => RdW w (some ⟨a, o, none⟩) (ys.flatMap encC)) (fun w w' hk h => h.old hk) (fun w hm _ => ⟨trivial, by exact Mod.own_rd (k := 3) (T := 29) (c := d) (i := 0) hm rfl⟩) ?_
      refine VC_sound tabOk 100 ?_
      refine ⟨_, wrap_i64 (n := (i : Int) - 1) (by omega) (by omega), ?_⟩
      refine ⟨⟨by omega, by omega⟩, ?_⟩
      refine ⟨⟨by omega, by omega⟩, ?_⟩
      refine Go_first (v := .string ys[i - 1].name) rfl rfl rfl rfl (fun w _ hw => rxLoadPart tabOk rfl encC_is hw (List.getElem?_eq_getElem (by omega)) (off := 0) rfl (by simp only [addA, hidx])) ?_
      refine VC_sound tabOk 100 ?_
      refine Go_first (v := .string ys[i].name) rfl rfl rfl rfl (fun w _ hw => rxLoadPart tabOk rfl encC_is hw (List.getElem?_eq_getElem hlt) (off := 0) rfl (by simp only [addA]; rfl)) ?_
      refine VC_sound tabOk 100 ?_
      refine ⟨fun h => ?_, fun _ => ?_⟩
      · have hs' : Op.bytesLess ys[i - 1].name.toList ys[i].name.toList = true := hs
        rw [hs'] at h
        cases h
      refine ⟨_, wrap_i64 (n := (i : Int) + 1) (by omega) (by omega), ?_⟩
      exact Go_fin (i + 1) (by omega) (by omega) ⟨rfl, rfl, rfl, trivial⟩ (fun _ h => h)
    · refine VC_sound tabOk 100 ?_
      refine ⟨fun h => by first | (simp at h; done) | (simp at h; omega) | (simp_all; done), fun _ => ?_⟩
      show Go _ _ _ _
      refine Go_ops rfl (OpTo_mcall (cuR b bm cs) [own encC 3 29 B d ys] (List.perm_append_comm (l₁ := [_]) (l₂ := cuR b bm cs)) rfl rfl rfl rfl rfl (by kernel_rfl) (fun w hb hm hio hsp k => cu_least b bm cs (by omega) w _ k) ?_)
      rintro _ _ ⟨⟨zs, rfl, hz1, hz2⟩, rfl⟩
      obtain rfl := uniq zs hz1 hz2
      refine Go_res (own encC 3 29 B d zs :: cuR b bm cs) (fun _ h => h.permRs List.perm_append_comm) ?_
      refine VC_sound tabOk 100 ?_
      refine Go_loop (σ := Nat) (fun i => [(3, .v (ptrV b)), (5, .v (.slice B zs.length d)), (7, .v (.int .i64 (minL zs))), (8, .v (.bool (decide (0 < zs.length)))), (9, .v (.int .i64 i))]) (fun i => own encC 3 29 B d (negs zs i) :: cuR b bm cs) (fun i => i ≤ zs.length) (fun i => zs.length - i) 0 (by omega) ⟨rfl, rfl, rfl, rfl, rfl, trivial⟩ (fun _ h => h) ?_
      intro j hj
      dsimp only at hj ⊢
      by_cases hlt2 : j < zs.length
      · refine Go_with _ (fun w hm _ => hm.own_some (i := 0) rfl (ne_nil_of_lt (by rw [negs_len zs j hj]; omega : 0 < (negs zs j).length))) ?_
        rintro ⟨a, o, rfl⟩
        have hmin := minL_le (List.getElem_mem hlt2)
        refine VC_sound tabOk 100 ?_
        refine ⟨fun _ => ?_, fun h => by first | (simp at h; done) | (simp at h; omega) | (simp_all; done)⟩
        refine ⟨⟨by omega, by omega⟩, ?_⟩
        refine Or.inr (findR_E ?_)
        refine Go_ops rfl (OpTo_loadPart tabOk encC_is (j := 1) (.int .i64 zs[j].last) rfl rfl rfl (fun w hm _ => hm.own_rd (i := 0) rfl) (negs_at zs j hlt2) rfl (by simp only [addA]; rfl) ?_)
        refine VC_sound tabOk 100 ?_
        refine ⟨fun h => by first | (simp at h; done) | (simp at h; omega) | (simp_all; done), fun _ => ?_⟩
        refine ⟨⟨by omega, by omega⟩, ?_⟩
        refine Or.inr (findR_E ?_)
        refine Go_ops rfl (OpTo_storePart tabOk encC_is (j := 1) (u' := neg zs[j]) 0 rfl rfl rfl rfl rfl rfl (negs_at zs j hlt2) rfl rfl rfl (by simp only [addA]; rfl) ?_)
        refine VC_sound tabOk 100 ?_
        refine ⟨_, wrap_i64 (n := (j : Int) + 1) (by omega) (by omega), ?_⟩
        refine Go_fin (j + 1) (by omega) (by omega) ⟨rfl, rfl, rfl, rfl, rfl, trivial⟩ (fun _ h => ?_)
        dsimp only
        rw [← negs_set zs j hlt2]
        exact h
      · refine VC_sound tabOk 100 ?_
        refine ⟨fun h => by first | (simp at h; done) | (simp at h; omega) | (simp_all; done), fun _ => ?_⟩
        show Go _ _ _ _
        refine Go_ops rfl (OpTo_mcall (cuR b bm cs) [own encC 3 29 B d (negs zs j)] (List.perm_append_comm (l₁ := [_]) (l₂ := cuR b bm cs)) rfl rfl rfl rfl rfl (by kernel_rfl) (fun w hb hm hio hsp k => cu_least b bm cs (by omega) w _ k) ?_)
        rintro _ _ ⟨⟨us, rfl, hu1, hu2⟩, rfl⟩
        obtain rfl := uniq us hu1 hu2
        refine VC_sound tabOk 100 ?_
        refine ⟨fun _ => ?_, fun h => by first | (simp at h; done) | (simp at h; omega) | (simp_all; done)⟩
        refine ⟨fun _ => ?_, fun h => by first | (simp at h; done) | (simp at h; omega) | (simp_all; done)⟩
        exact congrArg Value.bool (by simp; omega)
end Go.Proofs.Ytmlaaddkdemmlaa
