/- What Truncate of package heap does; when two lists of rows are alike. -/
import Derived.Test.YtbhlkninmbafcaaGreatHeapB
import Derived.Test.YtbhlkninmbafcaaGreatHeapP
import Derived.Test.YtbhlkninmbafcaaGreatRxEq
set_option maxRecDepth 100000
set_option autoImplicit false
set_option linter.unusedVariables false
set_option linter.unusedSimpArgs false
namespace Go.Proofs.YtbhlkninmbafcaaGreat
open Go.RX Go Go.RowKit


theorem stE_pos {s : TxS} {x : Int} (h : stE s x = 1) : 0 < x := by
  by_cases hx : x < 1 ∨ s.next ≤ x
  · rw [stE, if_pos hx] at h; cases h
  · omega

/-- What Truncate comes to. -/
def truQ (h m b1 b2 : Nat) (s : TxS) (A : Option Addr) (c : Nat) (vs : List VerM) (v : VwM) : Value → List Res → Prop := fun u Rs =>
  (stE s v.own ≠ 1 ∧ u = .tuple #[.slice none 0 0, .int .i64 7] ∧ Rs = hpX h m b1 b2 s A c vs) ∨
  (stE s v.own = 1 ∧ vs.any (truP (stE s) v) = true ∧ u = .tuple #[.slice none 0 0, .int .i64 6] ∧ Rs = hpX h m b1 b2 s A c vs) ∨
  (stE s v.own = 1 ∧ vs.any (truP (stE s) v) = false ∧ ∃ ys A2 c2, SrtS (seenL (stE s) v vs) ys ∧ u = .tuple #[.slice A2 ys.length c2, .int .i64 0] ∧ Rs = own encR 2 55 A2 c2 ys :: hpX h m b1 b2 s A c (vs.map (endV (stE s) v)))
set_option maxHeartbeats 4000000 in
theorem hp_truncate (h m b1 b2 : Nat) (s : TxS) (A : Option Addr) (c : Nat) (vs : List VerM) (v : VwM) (hn : vs.length ≤ 10000) (hl : v.op.length ≤ 1000000) (w0 : World) (hfs : List PH) (hm : Mod hfs (hpX h m b1 b2 s A c vs) w0) (hS : RdF hfs v.S (v.op.flatMap (encI .i64))) :
    Calls Tryz.prog 34 #[.pointer (some ⟨h, 0, none⟩), v.v] w0 fun e w' => ∃ u Rs', e = .returned u ∧ truQ h m b1 b2 s A c vs v u Rs' ∧ Mod hfs Rs' w' ∧ Oth w0 w' := by
  refine enterN (tab := tab) Tryz.func34 rfl Tryz.ntmps34 rfl (args := [_, _]) rfl hm ?_
  refine VC_sound tabOk 100 ?_
  intro b2' _ b3 _
  (repeat (first | refine Or.inl ⟨rfl, rfl, ?_⟩ | refine Or.inl ⟨rfl, ?_⟩ | refine Or.inr ?_))
  (repeat (first | refine Or.inl ⟨rfl, rfl, ?_⟩ | refine Or.inl ⟨rfl, ?_⟩ | refine Or.inr ?_))
  refine Go_ops rfl (OpTo_pcall (v := .int .i64 (readyE (stE s) v)) rfl rfl rfl rfl rfl (by kernel_rfl) (fun w hm _ => hp_ready h m b1 b2 s A c vs v w (HpAt.of hm 2 rfl rfl rfl rfl rfl)) ?_)
  refine VC_sound tabOk 100 ?_
  by_cases ho : stE s v.own = 1
  rotate_left
  · have e : readyE (stE s) v = 7 := by rw [readyE, if_neg ho]
    rw [e]
    refine ⟨fun _ => ?_, fun h => by first | (simp at h; done) | (simp at h; omega) | (simp_all; done)⟩
    exact ⟨_, .inl ⟨ho, rfl, rfl⟩, fun _ _ h => h.sel [2, 3, 4, 5, 6] rfl⟩
  have e : readyE (stE s) v = 0 := by rw [readyE, if_pos ho]
  have hop := stE_pos ho
  rw [e]
  refine ⟨fun h => by first | (simp at h; done) | (simp at h; omega) | (simp_all; done), fun _ => ?_⟩
  (repeat (first | refine Or.inl ⟨rfl, rfl, ?_⟩ | refine Or.inl ⟨rfl, ?_⟩ | refine Or.inr ?_))
  (repeat (first | refine Or.inl ⟨rfl, rfl, ?_⟩ | refine Or.inl ⟨rfl, ?_⟩ | refine Or.inr ?_))
  refine Go_ops rfl (OpTo_pcall (v := .bool (vs.any (truP (stE s) v))) rfl rfl rfl rfl rfl (by kernel_rfl) (fun w hm hio => sl_containsFunc_V A c vs 54 #[] #[.pointer (some ⟨b2', 0, none⟩), .pointer (some ⟨b3, 0, none⟩)] (truP (stE s) v) w (hm.own_rd (i := 3) rfl) (by omega) (by kernel_rfl)
    (fun x _ w2 h2 => hp_tru1 h m b1 b2 s A c vs v x b2' b3 w2 ((HpAt.of hm 2 rfl rfl rfl rfl rfl).below h2) (RdW.below (hS _ w hm) h2) hl (blk_below h2 (hm.blk_at (i := 1) rfl)) (blk_below h2 (hm.blk_at (i := 0) rfl)))) ?_)
  refine VC_sound tabOk 100 ?_
  refine ⟨fun h1 => ?_, fun h1 => ?_⟩
  · exact ⟨_, .inr (.inl ⟨ho, h1, rfl, rfl⟩), fun _ _ h => h.sel [2, 3, 4, 5, 6] rfl⟩
  (repeat (first | refine Or.inl ⟨rfl, rfl, ?_⟩ | refine Or.inl ⟨rfl, ?_⟩ | refine Or.inr ?_))
  (repeat (first | refine Or.inl ⟨rfl, rfl, ?_⟩ | refine Or.inl ⟨rfl, ?_⟩ | refine Or.inr ?_))
  show Go _ _ _ _
  refine Go_ops rfl (OpTo_ncall rfl rfl rfl rfl rfl (by kernel_rfl) (fun w hm _ => hp_scan h m b1 b2 s A c vs v w (HpAt.of hm 2 rfl rfl rfl rfl rfl) (hS _ w hm) hl hn) ?_)
  rintro _ _ ⟨ys, hy, A2, c2, rfl, rfl⟩
  have hyl : ys.length ≤ 10000 := by
    rw [hy.2.2, seenL, List.length_map]
    exact Nat.le_trans (List.length_filter_le _ _) hn
  refine VC_sound tabOk 100 ?_
  refine Go_loop (σ := Nat × List VerM) (fun u => [(2, .v (.pointer (some ⟨b2', 0, none⟩))), (3, .v (.pointer (some ⟨b3, 0, none⟩))), (7, .v (.slice A2 ys.length c2)), (25, .v (.slice A2 ys.length c2)), (26, .v (.int .i64 ys.length)), (27, .v (.int .i64 u.1))]) (fun u => own encR 2 55 A2 c2 ys :: .blk b3 51 v.cs :: .blk b2' 79 [.pointer (some ⟨h, 0, none⟩)] :: hpX h m b1 b2 s A c u.2) (fun u => u.1 ≤ ys.length ∧ TruI (stE s) v vs u.2 ((ys.drop u.1).map RowM.key)) (fun u => ys.length - u.1) (0, vs) ⟨Nat.zero_le _, TruI.start hy h1⟩ ⟨rfl, rfl, rfl, rfl, rfl, rfl, trivial⟩ (fun _ h => h) ?_
  rintro ⟨i, vs'⟩ ⟨hi, hI⟩
  dsimp only at hi hI ⊢
  by_cases hlt : i < ys.length
  · refine Go_with _ (fun w hm _ => hm.own_some (i := 0) rfl (ne_nil_of_lt hlt)) ?_
    rintro ⟨ba, oa, rfl⟩
    obtain ⟨y, hgy⟩ : ∃ y, ys[i]? = some y := ⟨_, List.getElem?_eq_getElem hlt⟩
    have hdr : ys.drop i = y :: ys.drop (i + 1) := by
      obtain ⟨_, rfl⟩ := List.getElem?_eq_some_iff.1 hgy
      exact List.drop_eq_getElem_cons hlt
    rw [hdr, List.map_cons] at hI
    have hvl := hI.len
    refine VC_sound tabOk 100 ?_
    refine ⟨fun _ => ?_, fun h => by first | (simp at h; done) | (simp at h; omega) | (simp_all; done)⟩
    refine ⟨⟨by omega, by omega⟩, ?_⟩
    (repeat (first | refine Or.inl ⟨rfl, rfl, ?_⟩ | refine Or.inl ⟨rfl, ?_⟩ | refine Or.inr ?_))
    refine Go_ops rfl (OpTo_loadRow tabOk encR_is (mkR y) rfl rfl rfl rfl rfl (fun h => by first | rfl | cases h) (fun w hm _ => hm.own_rd (i := 0) rfl) hgy (by simp only [addA]; rfl) ?_)
    refine VC_sound tabOk 100 ?_
    intro b9 _
    (repeat (first | refine Or.inl ⟨rfl, rfl, ?_⟩ | refine Or.inl ⟨rfl, ?_⟩ | refine Or.inr ?_))
    (repeat (first | refine Or.inl ⟨rfl, rfl, ?_⟩ | refine Or.inl ⟨rfl, ?_⟩ | refine Or.inr ?_))
    (repeat (first | refine Or.inl ⟨rfl, rfl, ?_⟩ | refine Or.inl ⟨rfl, ?_⟩ | refine Or.inr ?_))
    (repeat (first | refine Or.inl ⟨rfl, rfl, ?_⟩ | refine Or.inl ⟨rfl, ?_⟩ | refine Or.inr ?_))
    refine Go_sel [4, 5, 6, 7, 8, 0, 1, 2, 3] rfl ?_
    show Go _ _ _ _
    show Go _ _ _ _
    refine Go_ops rfl (OpTo_mcall (hpX h m b1 b2 s A c vs') [.blk b9 55 (encR y), own encR 2 55 (some ⟨ba, oa, none⟩) c2 ys, .blk b3 51 v.cs, .blk b2' 79 [.pointer (some ⟨h, 0, none⟩)]] (List.Perm.of_eq rfl) rfl rfl rfl rfl rfl (by kernel_rfl) (fun w hb hm hio hsp k => hp_kill h m b1 b2 s A c vs' v y.key (by omega) hl w _ k (RdF.of_split hsp fun Rs w h => hS _ w h)) ?_)
    rintro _ _ ⟨e, vs2, hq, rfl, rfl⟩
    rcases hq with ⟨hx, _⟩ | ⟨_, hall, _⟩ | ⟨_, k, x, hx, hf, _, ⟨hoth, _⟩ | ⟨_, rfl, rfl⟩⟩
    · exact absurd ho hx
    · exact absurd hall hI.some
    · have hsx : x.key = y.key ∧ seesP (stE s) v x = true := by simpa [findP] using hf
      have := hI.no x (List.mem_of_getElem? hx) hsx.2
      rw [hoth] at this; cases this
    refine VC_sound tabOk 100 ?_
    refine ⟨_, wrap_i64 (n := (i : Int) + 1) (by omega) (by omega), ?_⟩
    exact Go_fin (i + 1, vs'.set k ⟨x.key, x.text, x.born, v.own⟩) ⟨by dsimp only; omega, hI.step hop hx hf⟩ (by dsimp only; omega) ⟨rfl, rfl, rfl, rfl, rfl, rfl, trivial⟩ (fun _ h => h.sel [6, 7, 8, 0, 1, 2, 3, 4] rfl)
  have he : i = ys.length := by omega
  subst he
  rw [List.drop_length, List.map_nil] at hI
  have hd := hI.done
  subst hd
  refine VC_sound tabOk 100 ?_
  refine ⟨fun h => by first | (simp at h; done) | (simp at h; omega) | (simp_all; done), fun _ => ?_⟩
  exact ⟨_, .inr (.inr ⟨ho, h1, ys, A2, c2, hy, rfl, rfl⟩), fun _ _ h => h.sel [0, 3, 4, 5, 6, 7] rfl⟩

/-! ### rows -/

set_option maxHeartbeats 1000000 in
theorem r07_rows (A B : Option Addr) (c d : Nat) (l : List RowM) (w0 : World) (hr : RdW w0 A (l.flatMap encR)) (hs : RdW w0 B (l.flatMap encR)) (hl : l.length ≤ 1000000) :
    Calls Tryz.prog 17 #[.slice A l.length c, .slice B l.length d] w0 fun e w' => e = .returned (.bool true) ∧ BelowD w0.heap.size w0 w' := by
  refine enterP (tab := tab) Tryz.func17 rfl Tryz.ntmps17 rfl (args := [_, _]) rfl ?_
  refine VC_sound tabOk 100 ?_
  refine ⟨fun h => by first | (simp at h; done) | (simp at h; omega) | (simp_all; done), fun _ => ?_⟩
  refine Go_loop (σ := Nat) (fun i => [(0, .v (.slice A l.length c)), (1, .v (.slice B l.length d)), (5, .v (.int .i64 i))]) (fun _ => []) (fun i => i ≤ l.length) (fun i => l.length - i) 0 (Nat.zero_le _) ⟨rfl, rfl, rfl, trivial⟩ (fun _ h => h) ?_
  intro i hi
  dsimp only at hi ⊢
  by_cases hlt : i < l.length
  · obtain ⟨b, o, rfl⟩ := RdW.some encR_is hr (ne_nil_of_lt hlt)
    obtain ⟨b2, o2, rfl⟩ := RdW.some encR_is hs (ne_nil_of_lt hlt)
    obtain ⟨e, hge⟩ : ∃ e, l[i]? = some e := ⟨_, List.getElem?_eq_getElem hlt⟩
    refine VC_sound tabOk 100 ?_
    refine ⟨fun _ => ?_, fun h => by first | (simp at h; done) | (simp at h; omega) | (simp_all; done)⟩
    show Go _ _ _ _
    refine Go_any mixed [] [(0, false), (1, false), (2, false), (4, false), (5, false), (6, false), (3, false), (7, false), (8, false)] rfl (by kernel_rfl) (by kernel_rfl) [] (fun w => RdW w (some ⟨b, o, none⟩) (l.flatMap encR) ∧ RdW w (some ⟨b2, o2, none⟩) (l.flatMap encR)) (fun w w' hk h => ⟨h.1.old hk, h.2.old hk⟩) (fun w hm _ => ⟨trivial, hr.mod hm, hs.mod hm⟩) ?_
    refine VC_sound tabOk 100 ?_
    refine ⟨⟨by omega, by omega⟩, ?_⟩
    refine ⟨⟨by omega, by omega⟩, ?_⟩
    refine Go_first (v := mkR e) rfl rfl rfl rfl (fun w _ hw => rxLoadRow tabOk rfl encR_is rfl (fun h => by first | rfl | cases h) hw.1 hge (by simp only [addA]; rfl) rfl) ?_
    refine VC_sound tabOk 100 ?_
    refine Go_first (v := mkR e) rfl rfl rfl rfl (fun w _ hw => rxLoadRow tabOk rfl encR_is rfl (fun h => by first | rfl | cases h) hw.2 hge (by simp only [addA]; rfl) rfl) ?_
    refine VC_sound tabOk 100 ?_
    refine Go_firstB (.bool (!rowEq e e)) rfl rfl rfl rfl rfl (fun w => row_neq e e _ _ w) ?_
    rw [rowEq_self]
    refine VC_sound tabOk 100 ?_
    refine ⟨fun h => by first | (simp at h; done) | (simp at h; omega) | (simp_all; done), fun _ => ?_⟩
    refine ⟨_, wrap_i64 (n := (i : Int) + 1) (by omega) (by omega), ?_⟩
    exact Go_fin (i + 1) (by omega) (by omega) ⟨rfl, rfl, rfl, trivial⟩ (fun _ h => h)
  refine VC_sound tabOk 100 ?_
  refine ⟨fun h => by first | (simp at h; done) | (simp at h; omega) | (simp_all; done), fun _ => ?_⟩
  rfl
end Go.Proofs.YtbhlkninmbafcaaGreat
