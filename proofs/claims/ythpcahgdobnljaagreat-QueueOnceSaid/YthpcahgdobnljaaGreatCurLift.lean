/- Least; and what each function of package cursor does to all consumers. -/
import Derived.Test.YthpcahgdobnljaaGreatCurAll
import Derived.Test.YthpcahgdobnljaaGreatL13
set_option maxRecDepth 100000
set_option autoImplicit false
set_option linter.unusedVariables false
namespace Go.Proofs.YthpcahgdobnljaaGreat.Cu
open Go.RX Go Go.RowKit


def minF (n : Int) (x : CurV) : Int := if x.last < n then x.last else n
def minL : List CurV → Int
  | [] => 0
  | y :: r => (y :: r).foldl minF y.last
def leastT (ys : List CurV) : Value := .tuple #[.int .i64 (minL ys), .bool (decide (0 < ys.length))]

set_option maxHeartbeats 2000000 in
theorem cu_least (b bm : Nat) (cs : Cs) (hc : cs.length ≤ 12) (w0 : World) (hfs : List PH) (hm : Mod hfs (cuR b bm cs) w0) :
    Calls Tryz.prog 70 #[ptrV b] w0 fun e w' => ∃ v Rs', e = .returned v ∧ ((∃ ys, v = leastT ys ∧ ys.Perm (cs.map (·.1)) ∧ Rise ltS CurV.name ys) ∧ Rs' = cuR b bm cs) ∧ Mod hfs Rs' w' ∧ Oth w0 w' := by
  refine enterN (tab := tab) Tryz.func70 rfl Tryz.ntmps70 rfl (args := [_]) rfl hm ?_
  refine VC_sound tabOk 100 ?_
  show Go _ _ _ _
  refine Go_ops rfl (OpTo_mcall (cuR b bm cs) [] (List.Perm.of_eq (by simp)) rfl rfl rfl rfl rfl (by kernel_rfl) (fun w hb hm hio hsp k => cu_all b bm cs hc w _ k) ?_)
  rintro _ _ ⟨A, c, ys, rfl, hp, hr, rfl⟩
  have hyl : ys.length = cs.length := by have := hp.length_eq; simpa using this
  refine Go_res (own encC 3 50 A c ys :: cuR b bm cs) (fun _ h => h.permRs (List.Perm.of_eq (List.append_nil _))) ?_
  by_cases h0 : ys = []
  · subst h0
    refine VC_sound tabOk 100 ?_
    refine ⟨fun _ => ?_, fun h => by first | (simp at h; done) | (simp at h; omega) | (simp_all; done)⟩
    exact ⟨_, ⟨⟨[], rfl, hp, hr⟩, rfl⟩, fun _ _ h => h.drop (a := [_])⟩
  have hpos : 0 < ys.length := List.length_pos_iff.2 h0
  refine Go_with _ (fun w hm _ => hm.own_some (i := 0) rfl h0) ?_
  rintro ⟨a, o, rfl⟩
  refine VC_sound tabOk 100 ?_
  refine ⟨fun h => by first | (simp at h; done) | (simp at h; omega) | (simp_all; done), fun _ => ?_⟩
  refine ⟨⟨by omega, by omega⟩, ?_⟩
  refine Or.inr (findR_E ?_)
  refine Go_ops rfl (OpTo_loadPart tabOk encC_is (n := 0) (j := 1) (.int .i64 ys[0].last) rfl rfl rfl (fun w hm _ => hm.own_rd (i := 0) rfl) (List.getElem?_eq_getElem hpos) rfl (by simp [addA]) ?_)
  refine VC_sound tabOk 100 ?_
  refine Go_loop (σ := Nat) (fun i => [(4, .v (.slice (some ⟨a, o, none⟩) ys.length c)), (5, .v (.int .i64 ((ys.take i).foldl minF ys[0].last))), (17, .v (.slice (some ⟨a, o, none⟩) ys.length c)), (18, .v (.int .i64 ys.length)), (19, .v (.int .i64 i))])
    (fun _ => own encC 3 50 (some ⟨a, o, none⟩) c ys :: cuR b bm cs) (fun i => i ≤ ys.length) (fun i => ys.length - i) 0 (by omega) ⟨rfl, rfl, rfl, rfl, rfl, trivial⟩ (fun _ h => h) ?_
  intro i hi
  dsimp only at hi ⊢
  refine VC_sound tabOk 100 ?_
  refine ⟨fun hb => ?_, fun hb => ?_⟩
  · have hlt : i < ys.length := by simp at hb; omega
    refine ⟨⟨by omega, by omega⟩, ?_⟩
    refine Or.inr (findR_E ?_)
    refine Go_ops rfl (OpTo_loadRow tabOk encC_is (mkC ys[i]) rfl rfl rfl rfl rfl (fun h => by cases h) (fun w hm _ => hm.own_rd (i := 0) rfl) (List.getElem?_eq_getElem hlt) (by simp only [addA]; rfl) ?_)
    refine VC_sound tabOk 100 ?_
    intro b7 _
    (repeat (first | refine Or.inl ⟨rfl, rfl, ?_⟩ | refine Or.inl ⟨rfl, ?_⟩ | refine Or.inr ?_))
    refine ⟨_, wrap_i64 (n := (i : Int) + 1) (by omega) (by omega), ?_⟩
    refine Go_fin (i + 1) (by omega) (by omega) ⟨rfl, ?_, rfl, rfl, rfl, trivial⟩ (fun _ h => Mod.drop (a := [_]) h)
    rw [List.take_succ_eq_append_getElem hlt, List.foldl_append]
    rfl
  · have he : i = ys.length := by simp at hb; omega
    subst he
    have e : leastT ys = .tuple #[.int .i64 ((ys.take ys.length).foldl minF ys[0].last), .bool true] := by
      cases ys with
      | nil => exact absurd rfl h0
      | cons y r => simp [leastT, minL]
    exact ⟨_, ⟨⟨ys, e.symm, hp, hr⟩, rfl⟩, fun _ _ h => h.drop (a := [_])⟩

/-! ### what each does to all of them -/
theorem alOf_append (cs : Cs) (c : CurV × Nat) : alOf (cs ++ [c]) = alOf cs ++ [(c.1.name, c.2)] := by simp [alOf]
theorem blksOf_append (cs ds : Cs) : blksOf (cs ++ ds) = blksOf cs ++ blksOf ds := by simp [blksOf]

def regSt (name : ByteArray) (at_ : Int) (q : Nat) (cs : Cs) : Cs := if regE name at_ (alOf cs) = 0 then cs ++ [(⟨name, at_, 0⟩, q)] else cs

theorem regE_new {name : ByteArray} {at_ : Int} {cs : Cs} (h : regE name at_ (alOf cs) = 0) : name ∉ names cs ∧ cs.length < 4 := by
  unfold regE at h
  split at h
  · cases h
  split at h
  · cases h
  rename_i h2
  split at h
  · cases h
  rename_i h3
  refine ⟨?_, by simpa [alOf] using h3⟩
  rw [← keys_alOf]
  refine aget_none.1 ?_
  cases hx : aget name (alOf cs) with
  | none => rfl
  | some q => rw [hx] at h2; simp at h2

theorem cuR_register (b bm : Nat) (cs : Cs) (name : ByteArray) (at_ : Int) (w0 : World) (hfs : List PH) (hm : Mod hfs (cuR b bm cs) w0) :
    Calls Tryz.prog 85 #[ptrV b, .string name, .int .i64 at_] w0 fun e w' => ∃ v Rs', e = .returned v ∧ (v = .int .i64 (regE name at_ (alOf cs)) ∧ ∃ q, Rs' = cuR b bm (regSt name at_ q cs)) ∧ Mod hfs Rs' w' ∧ Oth w0 w' := by
  obtain ⟨hb, h1, h2⟩ := Mod.split (a := cuB b bm (alOf cs)) (b := blksOf cs) hm
  refine (cu_register b bm (alOf cs) name at_ w0 _ h1).mono ?_
  rintro e w' ⟨v, Rs', rfl, ⟨rfl, hR⟩, hm', hio⟩
  rcases hR with ⟨hne, rfl⟩ | ⟨h0, q, rfl⟩
  · exact ⟨_, _, rfl, ⟨rfl, 0, rfl⟩, by rw [regSt, if_neg hne]; exact h2 _ _ hm', hio⟩
  · refine ⟨_, _, rfl, ⟨rfl, q, rfl⟩, ?_, hio⟩
    rw [regSt, if_pos h0, cuR, alOf_append, blksOf_append]
    have hnew := (regE_new h0).1
    rw [← keys_alOf] at hnew
    have hm2 := h2 _ _ hm'
    rw [aset_new hnew] at hm2
    refine hm2.permRs ?_
    show (cuC q ⟨name, at_, 0⟩ :: (cuB b bm (alOf cs ++ [(name, q)]) ++ blksOf cs)).Perm (cuB b bm (alOf cs ++ [(name, q)]) ++ (blksOf cs ++ [cuC q ⟨name, at_, 0⟩]))
    rw [← List.append_assoc]
    exact (List.perm_append_singleton _ _).symm

def delSt (name : ByteArray) (cs : Cs) : Cs := cs.filter fun c => !decide (c.1.name = name)
theorem alOf_del (name : ByteArray) (cs : Cs) (hn : (names cs).Nodup) : adel name (alOf cs) = alOf (delSt name cs) := by
  rw [adel_filter (by rw [keys_alOf]; exact hn)]
  simp only [alOf, delSt, List.filter_map]
  rfl

theorem cuR_unregister (b bm : Nat) (cs : Cs) (name : ByteArray) (w0 : World) (hfs : List PH) (hm : Mod hfs (cuR b bm cs) w0) :
    Calls Tryz.prog 105 #[ptrV b, .string name] w0 fun e w' => ∃ v Rs', e = .returned v ∧ (v = .int .i64 (if (aget name (alOf cs)).isSome then 0 else 4) ∧ Rs' = cuR b bm (delSt name cs)) ∧ Mod hfs Rs' w' ∧ Oth w0 w' := by
  have hnd : (names cs).Nodup := by rw [← keys_alOf]; exact hm.mp_nodup (i := 1) rfl
  obtain ⟨hb, h1, h2⟩ := Mod.split (a := cuB b bm (alOf cs)) (b := blksOf cs) hm
  refine (cu_unregister b bm (alOf cs) name _ rfl w0 _ h1).mono ?_
  rintro e w' ⟨v, Rs', rfl, ⟨rfl, rfl⟩, hm', hio⟩
  refine ⟨_, _, rfl, ⟨rfl, rfl⟩, ?_, hio⟩
  have hm2 := h2 _ _ hm'
  rw [alOf_del name cs hnd] at hm2
  refine hm2.less ?_
  exact List.Sublist.append (List.Sublist.refl _) ((List.filter_sublist).map _)
end Go.Proofs.YthpcahgdobnljaaGreat.Cu
