/- What the functions of package heap hand back: Get, Scan. -/
import Derived.Test.YtbhlkninmbafcaaGreatStabR
set_option maxRecDepth 100000
set_option autoImplicit false
set_option linter.unusedVariables false
set_option linter.unusedSimpArgs false
namespace Go.Proofs.YtbhlkninmbafcaaGreat
open Go.RX Go Go.RowKit



/-- What cmp.Compare answers. -/
def cmpC (x y : Int) : Int := if ltI x y = true then -1 else if ltI y x = true then 1 else 0
theorem cmpC_lt (x y : Int) : decide (cmpC x y < 0) = ltI x y := by
  by_cases h : ltI x y = true
  · simp [cmpC, h]
  · by_cases h2 : ltI y x = true
    · simp [cmpC, h, h2]
    · simp [cmpC, h, h2]
theorem cmp_nan_C (x : Int) (w0 : World) : Calls Tryz.prog 77 #[Value.int .i64 x] w0 fun e w' => e = .returned (.bool false) ∧ BelowD w0.heap.size w0 w' := by
  refine enterP (tab := tab) Tryz.func77 rfl Tryz.ntmps77 rfl (args := [_]) rfl ?_
  refine VC_sound tabOk 100 ?_
  exact congrArg Value.bool (by simp)
theorem cmp_compare_C (x y : Int) (w0 : World) : Calls Tryz.prog 60 #[Value.int .i64 x, Value.int .i64 y] w0 fun e w' => e = .returned (.int .i64 (cmpC x y)) ∧ BelowD w0.heap.size w0 w' := by
  refine enterP (tab := tab) Tryz.func60 rfl Tryz.ntmps60 rfl (args := [_, _]) rfl ?_
  refine VC_sound tabOk 100 ?_
  refine Go_ops rfl (OpTo_pcall (v := .bool false) rfl rfl rfl rfl rfl (by kernel_rfl) (fun w hm _ => cmp_nan_C x w) ?_)
  refine VC_sound tabOk 100 ?_
  refine Go_ops rfl (OpTo_pcall (v := .bool false) rfl rfl rfl rfl rfl (by kernel_rfl) (fun w hm _ => cmp_nan_C y w) ?_)
  refine VC_sound tabOk 100 ?_
  refine ⟨fun h => by simp at h, fun _ => ?_⟩
  refine ⟨fun h => by simp at h, fun _ => ?_⟩
  refine ⟨fun h => ?_, fun h => ?_⟩
  · exact congrArg (Value.int .i64) (if_pos (by simpa [ltI] using h)).symm
  · refine ⟨fun h2 => ?_, fun h2 => ?_⟩
    · exact congrArg (Value.int .i64) (by rw [cmpC, if_neg (by simpa [ltI] using h), if_pos (by simpa [ltI] using h2)])
    · exact congrArg (Value.int .i64) (by rw [cmpC, if_neg (by simpa [ltI] using h), if_neg (by simpa [ltI] using h2)])


def zeroR : RowM := ⟨0, ⟨#[]⟩⟩
def rowOf (x : VerM) : RowM := ⟨x.key, x.text⟩
/-- What Get hands back. -/
def getV (st : Int → Int) (v : VwM) (vs : List VerM) (key : Int) : Value := match vs.find? (findP st v key) with
  | some x => .tuple #[mkR (rowOf x), .bool true]
  | none => .tuple #[mkR zeroR, .bool false]
set_option maxHeartbeats 2000000 in
theorem hp_get (h m b1 b2 : Nat) (s : TxS) (A : Option Addr) (c : Nat) (vs : List VerM) (v : VwM) (key : Int) (w0 : World) (hp : HpAt w0 h m b1 b2 s A c vs) (hS : RdI w0 v.S v.op) (hl : v.op.length ≤ 1000000) (hn : vs.length ≤ 1000000) :
    Calls Tryz.prog 35 #[.pointer (some ⟨h, 0, none⟩), v.v, .int .i64 key] w0 fun e w' => e = .returned (getV (stE s) v vs key) ∧ BelowD w0.heap.size w0 w' := by
  refine enterP (tab := tab) Tryz.func35 rfl Tryz.ntmps35 rfl (args := [_, _, _]) rfl ?_
  refine VC_sound tabOk 100 ?_
  intro b4 _ b6 _
  refine Go_ops rfl (OpTo_pcall (v := .bool false) rfl rfl rfl rfl rfl (by kernel_rfl) (fun w hm _ => hp_none h m b1 b2 s A c vs w (hp.mod hm)) ?_)
  refine VC_sound tabOk 100 ?_
  refine ⟨fun h => by simp at h, fun _ => ?_⟩
  (repeat (first | refine Or.inl ⟨rfl, rfl, ?_⟩ | refine Or.inl ⟨rfl, ?_⟩ | refine Or.inr ?_))
  refine Go_ops rfl (OpTo_pcall (v := .int .i64 (idxF (findP (stE s) v key) vs)) rfl rfl rfl rfl rfl (by kernel_rfl) (fun w hm _ => hp_find h m b1 b2 s A c vs v key w (hp.mod hm) (hS.mod hm) hl hn) ?_)
  refine VC_sound tabOk 100 ?_
  rcases idxF_spec (findP (stE s) v key) vs with ⟨h0, hall⟩ | ⟨i, hi, h0, hpi, hne⟩
  · rw [h0]
    refine ⟨fun _ => ?_, fun h => by first | (simp at h; done) | (simp at h; omega) | (simp_all; done)⟩
    (repeat (first | refine Or.inl ⟨rfl, rfl, ?_⟩ | refine Or.inl ⟨rfl, ?_⟩ | refine Or.inr ?_))
    have hf := find_none hall
    simp only [getV, hf]
    rfl
  rw [h0]
  refine ⟨fun h => by first | (simp at h; done) | (simp at h; omega) | (simp_all; done), fun _ => ?_⟩
  have hA := hp.rd
  obtain ⟨ba, oa, rfl⟩ := RdW.some encV_is hA (ne_nil_of_lt hi)
  have hf := find_of hi hpi hne
  have hgx : vs[i]? = some vs[i] := List.getElem?_eq_getElem hi
  (repeat (first | refine Or.inl ⟨rfl, rfl, ?_⟩ | refine Or.inl ⟨rfl, ?_⟩ | refine Or.inr ?_))
  refine Go_ops rfl (OpTo_loadBlk tabOk (cs := hpV m (some ⟨ba, oa, none⟩) vs.length c) (.slice (some ⟨ba, oa, none⟩) vs.length c) rfl rfl rfl (fun w hm _ => hm.block_old hp.blk) rfl ?_)
  refine VC_sound tabOk 100 ?_
  refine ⟨⟨by omega, by omega⟩, ?_⟩
  (repeat (first | refine Or.inl ⟨rfl, rfl, ?_⟩ | refine Or.inl ⟨rfl, ?_⟩ | refine Or.inr ?_))
  refine Go_ops rfl (OpTo_loadPart tabOk encV_is (n := i) (j := 0) (mkR (rowOf vs[i])) rfl rfl rfl (fun w hm _ => hA.mod hm) hgx rfl (by simp only [addA]; rfl) ?_)
  refine VC_sound tabOk 100 ?_
  (repeat (first | refine Or.inl ⟨rfl, rfl, ?_⟩ | refine Or.inl ⟨rfl, ?_⟩ | refine Or.inr ?_))
  simp only [getV, hf]
  rfl

abbrev rowCmp : RowM → RowM → Int := fun a b => cmpC a.key b.key
theorem rowCmp_ok : Cmps ltI RowM.key rowCmp := fun a b => cmpC_lt a.key b.key
theorem hp_scanC : AnsC Tryz.prog 59 #[] #[] mkR rowCmp := fun a b w0 => by
  show Calls Tryz.prog 59 #[mkR a, mkR b] w0 _
  refine enterP (tab := tab) Tryz.func59 rfl Tryz.ntmps59 rfl (args := [_, _]) rfl ?_
  refine VC_sound tabOk 100 ?_
  intro b1 _
  intro b2 _
  (repeat (first | refine Or.inl ⟨rfl, rfl, ?_⟩ | refine Or.inl ⟨rfl, ?_⟩ | refine Or.inr ?_))
  refine Go_ops rfl (OpTo_pcall (v := .int .i64 (cmpC a.key b.key)) rfl rfl rfl rfl rfl (by kernel_rfl) (fun w hm _ => cmp_compare_C a.key b.key w) ?_)
  refine VC_sound tabOk 100 ?_
  rfl

/-- What a view sees, as it came. -/
def seenL (st : Int → Int) (v : VwM) (vs : List VerM) : List RowM := (vs.filter (seesP st v)).map rowOf
/-- What Scan hands back. -/
def SrtS (xs ys : List RowM) : Prop := SameBy RowM.key xs ys ∧ Rise ltI RowM.key ys ∧ ys.length = xs.length
def rowsQ (ys : List RowM) : Value → List Res → Prop := fun u Rs => ∃ A c, u = .slice A ys.length c ∧ Rs = [own encR 2 55 A c ys]
set_option maxHeartbeats 4000000 in
theorem hp_scan (h m b1 b2 : Nat) (s : TxS) (A : Option Addr) (c : Nat) (vs : List VerM) (v : VwM) (w0 : World) (hp : HpAt w0 h m b1 b2 s A c vs) (hS : RdI w0 v.S v.op) (hl : v.op.length ≤ 1000000) (hn : vs.length ≤ 10000) :
    Calls Tryz.prog 36 #[.pointer (some ⟨h, 0, none⟩), v.v] w0 fun e w' => ∃ u Rs', e = .returned u ∧ (∃ ys, SrtS (seenL (stE s) v vs) ys ∧ rowsQ ys u Rs') ∧ Mod [heapOf w0] Rs' w' ∧ Oth w0 w' := by
  refine enterN (tab := tab) Tryz.func36 rfl Tryz.ntmps36 rfl (args := [_, _]) rfl (Mod.start w0) ?_
  refine VC_sound tabOk 100 ?_
  intro b3 _
  refine Go_ops rfl (OpTo_pcall (v := .bool false) rfl rfl rfl rfl rfl (by kernel_rfl) (fun w hm _ => hp_none h m b1 b2 s A c vs w (hp.mod hm)) ?_)
  refine VC_sound tabOk 100 ?_
  refine ⟨fun h => by simp at h, fun _ => ?_⟩
  (repeat (first | refine Or.inl ⟨rfl, rfl, ?_⟩ | refine Or.inl ⟨rfl, ?_⟩ | refine Or.inr ?_))
  refine Go_ops rfl (OpTo_loadBlk tabOk (cs := hpV m A vs.length c) (.slice A vs.length c) rfl rfl rfl (fun w hm _ => hm.block_old hp.blk) rfl ?_)
  refine VC_sound tabOk 100 ?_
  refine Go_loop (σ := Nat × Option Addr × Nat) (fun u => [(0, .v (.pointer (some ⟨h, 0, none⟩))), (3, .v (.pointer (some ⟨b3, 0, none⟩))), (5, .v (.slice u.2.1 (seenL (stE s) v (vs.take u.1)).length u.2.2)), (13, .v (.slice A vs.length c)), (14, .v (.int .i64 vs.length)), (15, .v (.int .i64 u.1))]) (fun u => [own encR 2 55 u.2.1 u.2.2 (seenL (stE s) v (vs.take u.1)), .blk b3 51 v.cs]) (fun u => u.1 ≤ vs.length) (fun u => vs.length - u.1) (0, none, 0) (Nat.zero_le _) ⟨rfl, rfl, rfl, rfl, rfl, rfl, trivial⟩ (fun _ h => h.own_nil none) ?_
  rintro ⟨i, A1, c1⟩ hi
  dsimp only at hi ⊢
  have hlen : (seenL (stE s) v (vs.take i)).length ≤ vs.length := by
    simp only [seenL, List.length_map]
    exact Nat.le_trans (List.length_filter_le _ _) (by simp; omega)
  by_cases hlt : i < vs.length
  · have hA := hp.rd
    obtain ⟨ba, oa, rfl⟩ := RdW.some encV_is hA (ne_nil_of_lt hlt)
    obtain ⟨x, hgx⟩ : ∃ x, vs[i]? = some x := ⟨_, List.getElem?_eq_getElem hlt⟩
    have hstep : seenL (stE s) v (vs.take (i + 1)) = seenL (stE s) v (vs.take i) ++ if seesP (stE s) v x = true then [rowOf x] else [] := by
      simp only [seenL, List.take_add_one, hgx, Option.toList_some, List.filter_append, List.map_append]
      congr 1
      by_cases h : seesP (stE s) v x = true <;> simp [h]
    refine VC_sound tabOk 100 ?_
    refine ⟨fun _ => ?_, fun h => by first | (simp at h; done) | (simp at h; omega) | (simp_all; done)⟩
    refine ⟨⟨by omega, by omega⟩, ?_⟩
    (repeat (first | refine Or.inl ⟨rfl, rfl, ?_⟩ | refine Or.inl ⟨rfl, ?_⟩ | refine Or.inr ?_))
    refine Go_ops rfl (OpTo_loadRow tabOk encV_is (mkV x) rfl rfl rfl rfl rfl (fun h => by first | rfl | cases h) (fun w hm _ => hA.mod hm) hgx (by simp only [addA]; rfl) ?_)
    refine VC_sound tabOk 100 ?_
    intro b7 _
    (repeat (first | refine Or.inl ⟨rfl, rfl, ?_⟩ | refine Or.inl ⟨rfl, ?_⟩ | refine Or.inr ?_))
    (repeat (first | refine Or.inl ⟨rfl, rfl, ?_⟩ | refine Or.inl ⟨rfl, ?_⟩ | refine Or.inr ?_))
    refine Go_ops rfl (OpTo_pcall (v := .bool (seesP (stE s) v x)) rfl rfl rfl rfl rfl (by kernel_rfl) (fun w hm _ => hp_sees h m b1 b2 s (some ⟨ba, oa, none⟩) c vs v x w (hp.mod hm) (hS.mod hm) hl) ?_)
    refine VC_sound tabOk 100 ?_
    refine ⟨fun h1 => ?_, fun h1 => ?_⟩
    · (repeat (first | refine Or.inl ⟨rfl, rfl, ?_⟩ | refine Or.inl ⟨rfl, ?_⟩ | refine Or.inr ?_))
      intro b26 _
      show Go _ _ _ _
      refine Go_ops rfl (OpTo_append tabOk encR_is (ys := [rowOf x]) (i := 2) rfl rfl rfl rfl rfl rfl rfl rfl rfl rfl rfl (fun w hm _ => hm.blk_rd (i := 0) rfl) (by simp; omega) (by simp; omega) (fun A2 c2 => ?_))
      refine VC_sound tabOk 100 ?_
      refine ⟨_, wrap_i64 (n := (i : Int) + 1) (by omega) (by omega), ?_⟩
      have e2 : seenL (stE s) v (vs.take (i + 1)) = seenL (stE s) v (vs.take i) ++ [rowOf x] := by rw [hstep, if_pos h1]
      exact Go_fin (i + 1, A2, c2) (by dsimp only; omega) (by dsimp only; omega) ⟨rfl, rfl, (by dsimp only; rw [e2]; simp [SV.val]), rfl, rfl, rfl, trivial⟩ (fun _ h => by dsimp only; rw [e2]; exact h.sel [2, 3] rfl)
    · refine ⟨_, wrap_i64 (n := (i : Int) + 1) (by omega) (by omega), ?_⟩
      have e2 : seenL (stE s) v (vs.take (i + 1)) = seenL (stE s) v (vs.take i) := by rw [hstep, if_neg (by rw [h1]; simp), List.append_nil]
      exact Go_fin (i + 1, A1, c1) (by dsimp only; omega) (by dsimp only; omega) ⟨rfl, rfl, (by dsimp only; rw [e2]), rfl, rfl, rfl, trivial⟩ (fun _ h => by dsimp only; rw [e2]; exact h.sel [1, 2] rfl)
  have he : i = vs.length := by omega
  subst he
  rw [List.take_length] at hlen ⊢
  refine VC_sound tabOk 100 ?_
  refine ⟨fun h => by first | (simp at h; done) | (simp at h; omega) | (simp_all; done), fun _ => ?_⟩
  show Go _ _ _ _
  refine Go_ops rfl (OpTo_mcall [own encR 2 55 A1 c1 (seenL (stE s) v vs)] [.blk b3 51 v.cs] (List.Perm.of_eq rfl) rfl rfl rfl rfl rfl (by kernel_rfl) (fun w hb hm hio hsp k => sl_sortStable_R ordI rowCmp_ok 59 #[] #[] (by kernel_rfl) hp_scanC A1 c1 (seenL (stE s) v vs) w _ k (by omega)) ?_)
  rintro _ _ ⟨rfl, ys, h1, h2, h3, rfl⟩
  refine VC_sound tabOk 100 ?_
  exact ⟨_, ⟨ys, ⟨h1, h2, h3⟩, A1, c1, by rw [h3]; rfl, rfl⟩, fun _ _ h => h.sel [0] rfl⟩
end Go.Proofs.YtbhlkninmbafcaaGreat
