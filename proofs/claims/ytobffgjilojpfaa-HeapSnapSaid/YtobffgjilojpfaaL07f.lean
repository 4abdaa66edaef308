/- The law HeapSnap: what its run comes to. -/
import Derived.Test.YtobffgjilojpfaaL07e
import Derived.Test.YtobffgjilojpfaaL07c
set_option maxRecDepth 100000
set_option autoImplicit false
set_option linter.unusedVariables false
set_option linter.unusedSimpArgs false
namespace Go.Proofs.Ytobffgjilojpfaa
open Go.RX Go Go.RowKit Go.ChangeShapes Go.WideShapes Go.ChangeAt


theorem one_ins {st : Int → Int} {v : VwM} (hv : v.own = 1) {n : Nat} {vs : List VerM} (hl : vs.length ≤ n) (hF : ∀ x ∈ vs, x.born = 1 ∧ x.died = 0) {r : RowM} : (insVs st v vs r).length ≤ n + 1 ∧ ∀ x ∈ insVs st v vs r, x.born = 1 ∧ x.died = 0 := by
  rcases insVs_cases st v vs r with e | ⟨_, e⟩
  · rw [e]; exact ⟨by omega, hF⟩
  · rw [e, hv]
    refine ⟨by simp; omega, fun x hx => ?_⟩
    rcases List.mem_append.1 hx with hx | hx
    · exact hF x hx
    · simp at hx; subst hx; exact ⟨rfl, rfl⟩
/-- The manager, while the second one is open. -/
def SnI (i : Nat) (s : TxS) : Prop := s.O = [2] ∧ 3 ≤ s.next ∧ s.next ≤ 3 + i ∧ 1 ∈ s.D
theorem SnI.one {i : Nat} {s : TxS} (h : SnI i s) : stE s 1 = 2 := by
  obtain ⟨h1, h2, h3, h4⟩ := h
  rw [stE, if_neg (by omega), if_neg (by rw [h1]; simp), if_pos h4]
theorem SnI.beg {i : Nat} {s : TxS} (h : SnI i s) (hi : i ≤ 80) : begOk s ∧ 1 ≤ s.next ∧ ¬ s.next ∈ s.O ∧ (begS s).O = [2, s.next] ∧ (begS s).next = s.next + 1 := by
  obtain ⟨h1, h2, h3, h4⟩ := h
  refine ⟨⟨by rw [h1]; decide, by omega⟩, by omega, by rw [h1]; simp; omega, by simp [begS, h1], rfl⟩
set_option maxHeartbeats 16000000 in
theorem l07_HeapSnap (A0 : Option Addr) (c0 : Nat) (l : List ActM) (A9 : Option Addr) (c9 : Nat) (more : List ActM) (w0 : World) (hr : RdW w0 A0 (l.flatMap encA)) (hok : ∀ z ∈ l, okA w0 z) (hl : l.length ≤ 9223372036854775807)
    (hr9 : RdW w0 A9 (more.flatMap encA)) (hok9 : ∀ z ∈ more, okA w0 z) (hl9 : more.length ≤ 9223372036854775807) :
    Calls Try.prog 4 #[.slice A0 l.length c0, .slice A9 more.length c9] w0 fun e w' => e = .returned (.bool true) ∧ BelowD w0.heap.size w0 w' := by
  refine enterP (tab := tab) Try.func4 rfl Try.ntmps4 rfl (args := [_, _]) rfl ?_
  refine VC_sound tabOk 100 ?_
  refine Go_ops rfl (OpTo_pcall (v := .bool true) rfl rfl rfl rfl rfl (by kernel_rfl) (fun w hm _ => l07_clash w) ?_)
  refine VC_sound tabOk 100 ?_
  refine ⟨fun h => by first | (simp at h; done) | (simp at h; omega) | (simp_all; done), fun _ => ?_⟩
  refine Go_ops rfl (OpTo_pcall (v := .bool (smallP l)) rfl rfl rfl rfl rfl (by kernel_rfl) (fun w hm _ => l07_small A0 c0 l w (hr.mod hm) hl) ?_)
  refine VC_sound tabOk 100 ?_
  refine ⟨fun hc => ?_, fun hc => ?_⟩
  · refine Go_ops rfl (OpTo_pcall (v := .bool true) rfl rfl rfl rfl rfl (by kernel_rfl) (fun w hm _ => l07_clash w) ?_)
    refine VC_sound tabOk 100 ?_
    rfl
  refine Go_ops rfl (OpTo_pcall (v := .bool (smallP more)) rfl rfl rfl rfl rfl (by kernel_rfl) (fun w hm _ => l07_small A9 c9 more w (hr9.mod hm) hl9) ?_)
  refine VC_sound tabOk 100 ?_
  refine ⟨fun hc9 => ?_, fun hc9 => ?_⟩
  · refine Go_ops rfl (OpTo_pcall (v := .bool true) rfl rfl rfl rfl rfl (by kernel_rfl) (fun w hm _ => l07_clash w) ?_)
    refine VC_sound tabOk 100 ?_
    rfl
  have hl80 : l.length ≤ 80 := smallP_len (by simpa using hc)
  have hm80 : more.length ≤ 80 := smallP_len (by simpa using hc9)
  show Go _ _ _ _
  refine Go_ops rfl (OpTo_ncall rfl rfl rfl rfl rfl (by kernel_rfl) (fun w hm _ => txn_new w) ?_)
  rintro _ _ ⟨m, b1, b2, rfl, rfl⟩
  refine VC_sound tabOk 100 ?_
  show Go _ _ _ _
  refine Go_ops rfl (OpTo_ncall rfl rfl rfl rfl rfl (by kernel_rfl) (fun w hm _ => hp_new _ w) ?_)
  rintro _ _ ⟨h, rfl, rfl⟩
  refine VC_sound tabOk 100 ?_
  refine Go_res (txB m b1 b2 ⟨1, [], []⟩ ++ hpR h m none 0 []) (fun _ h => (h.own_nil (enc := encV) (k := 4) (T := 76) none).sel [2, 3, 4, 1, 0] rfl) ?_
  show Go _ _ _ _
  refine Go_ops rfl (OpTo_mcall (txB m b1 b2 ⟨1, [], []⟩) (hpR h m none 0 []) (List.Perm.of_eq rfl) rfl rfl rfl rfl rfl (by kernel_rfl) (fun w hb hm hio hsp k => txn_begin_ok m b1 b2 ⟨1, [], []⟩ ⟨by decide, by decide⟩ (by decide) (by simp) w _ k) ?_)
  rintro _ _ ⟨rfl, rfl⟩
  refine VC_sound tabOk 100 ?_
  show Go _ _ _ _
  refine Go_ops rfl (OpTo_mcall (txB m b1 b2 ⟨2, [1], []⟩) (hpR h m none 0 []) (List.Perm.of_eq rfl) rfl rfl rfl rfl rfl (by kernel_rfl) (fun w hb hm hio hsp k => txn_now m b1 b2 ⟨2, [1], []⟩ (by decide) w _ k) ?_)
  rintro _ _ ⟨S1, d1, ks1, rfl, hp1, hr1, rfl⟩
  obtain rfl := List.Perm.eq_singleton hp1
  refine VC_sound tabOk 100 ?_
  intro b9 _
  (repeat (first | refine Or.inl ⟨rfl, rfl, ?_⟩ | refine Or.inl ⟨rfl, ?_⟩ | refine Or.inr ?_))
  refine Go_loop (σ := Nat × Option Addr × Nat × List VerM) (fun u => [(0, .v (.slice A0 l.length c0)), (1, .v (.slice A9 more.length c9)), (5, .v (.pointer (some ⟨m, 0, none⟩))), (6, .v (.pointer (some ⟨h, 0, none⟩))), (7, .v (.int .i64 1)), (9, .v (.pointer (some ⟨b9, 0, none⟩))), (10, .v (.int .i64 u.1))]) (fun u => hpX h m b1 b2 ⟨2, [1], []⟩ u.2.1 u.2.2.1 u.2.2.2 ++ [.blk b9 35 (VwM.cs ⟨2, S1, d1, [1], 1⟩), own (encI .i64) 1 2 S1 d1 [1]]) (fun u => u.1 ≤ l.length ∧ u.2.2.2.length ≤ u.1 ∧ ∀ x ∈ u.2.2.2, x.born = 1 ∧ x.died = 0) (fun u => l.length - u.1) (0, none, 0, []) ⟨Nat.zero_le _, Nat.le_refl _, by simp⟩ ⟨rfl, rfl, rfl, rfl, rfl, rfl, rfl, trivial⟩ (fun _ h => h.sel [5, 6, 2, 3, 4, 0, 1] rfl) ?_
  rintro ⟨i, A, c, vs⟩ ⟨hi, hvl, hF⟩
  dsimp only at hi hvl hF ⊢
  by_cases hlt : i < l.length
  · obtain ⟨bk, ok, rfl⟩ := RdW.some encA_is hr (ne_nil_of_lt hlt)
    obtain ⟨a, hga⟩ : ∃ a, l[i]? = some a := ⟨_, List.getElem?_eq_getElem hlt⟩
    refine VC_sound tabOk 100 ?_
    refine ⟨fun _ => ?_, fun h => by first | (simp at h; done) | (simp at h; omega) | (simp_all; done)⟩
    show Go _ _ _ _
    refine Go_any mixed [14] [(0, false), (2, false), (3, false), (4, false), (5, false), (8, false), (9, false), (10, false), (11, false), (1, false), (6, false), (7, false), (12, false), (13, false), (14, true)] rfl (by kernel_rfl) (by kernel_rfl) [.blk b9 35 (VwM.cs ⟨2, S1, d1, [1], 1⟩)] (fun w => RdW w (some ⟨bk, ok, none⟩) (l.flatMap encA)) (fun w w' hk h => h.old hk) (fun w hm _ => ⟨Holds.of_idx [5] hm, hr.mod hm⟩) ?_
    refine VC_sound tabOk 100 ?_
    refine ⟨⟨by omega, by omega⟩, ?_⟩
    refine ⟨⟨by omega, by omega⟩, ?_⟩
    (repeat (first | refine Or.inl ⟨rfl, rfl, ?_⟩ | refine Or.inl ⟨rfl, ?_⟩ | refine Or.inr ?_))
    refine Go_first (v := .int .i64 a.key) rfl rfl rfl rfl (fun w _ hw => rxLoadPart tabOk rfl encA_is hw hga (off := 2) rfl (by first | (simp only [addA]; rfl) | rfl)) ?_
    refine VC_sound tabOk 100 ?_
    refine ⟨by decide, _, rfl, ?_⟩
    (repeat (first | refine Or.inl ⟨rfl, rfl, ?_⟩ | refine Or.inl ⟨rfl, ?_⟩ | refine Or.inr ?_))
    refine Go_first (v := .string a.text) rfl rfl rfl rfl (fun w _ hw => rxLoadPart tabOk rfl encA_is hw hga (off := 3) rfl (by first | (simp only [addA]; rfl) | rfl)) ?_
    refine VC_sound tabOk 100 ?_
    refine Go_aloneM rfl rfl rfl (OpTo_mcall (hpX h m b1 b2 ⟨2, [1], []⟩ A c vs) [.blk b9 35 (VwM.cs ⟨2, S1, d1, [1], 1⟩), own (encI .i64) 1 2 S1 d1 [1]] (List.Perm.of_eq rfl) rfl rfl rfl rfl rfl (by kernel_rfl) (fun w hb hm hio hsp k => hp_insert h m b1 b2 ⟨2, [1], []⟩ A c vs ⟨2, S1, d1, [1], 1⟩ ⟨a.key.tmod 9, a.text⟩ (by omega) (by simp) w _ k (RdF.of_split hsp fun Rs w h => h.own_behind (i := 1) rfl)) ?_)
    rintro _ _ ⟨rfl, A', c', rfl⟩
    refine VC_sound tabOk 100 ?_
    refine ⟨_, wrap_i64 (n := (i : Int) + 1) (by omega) (by omega), ?_⟩
    exact Go_fin (i + 1, A', c', insVs (stE ⟨2, [1], []⟩) ⟨2, S1, d1, [1], 1⟩ vs ⟨a.key.tmod 9, a.text⟩) ⟨by dsimp only; omega, one_ins rfl hvl hF⟩ (by dsimp only; omega) ⟨rfl, rfl, rfl, rfl, rfl, rfl, rfl, trivial⟩ (fun _ h => h)
  have he : i = l.length := by omega
  subst he
  refine VC_sound tabOk 100 ?_
  refine ⟨fun h => by first | (simp at h; done) | (simp at h; omega) | (simp_all; done), fun _ => ?_⟩
  refine Go_sel [2, 3, 4, 0, 1] rfl ?_
  show Go _ _ _ _
  show Go _ _ _ _
  refine Go_ops rfl (OpTo_mcall (txB m b1 b2 ⟨2, [1], []⟩) (hpR h m A c vs) (List.Perm.of_eq rfl) rfl rfl rfl rfl rfl (by kernel_rfl) (fun w hb hm hio hsp k => txn_commit_ok m b1 b2 ⟨2, [1], []⟩ 1 (by simp) w _ k) ?_)
  rintro _ _ ⟨rfl, rfl⟩
  rw [show (⟨2, del 1 [1], ins 1 []⟩ : TxS) = ⟨2, [], [1]⟩ from by simp [del, ins]]
  refine VC_sound tabOk 100 ?_
  show Go _ _ _ _
  refine Go_ops rfl (OpTo_mcall (txB m b1 b2 ⟨2, [], [1]⟩) (hpR h m A c vs) (List.Perm.of_eq rfl) rfl rfl rfl rfl rfl (by kernel_rfl) (fun w hb hm hio hsp k => txn_begin_ok m b1 b2 ⟨2, [], [1]⟩ ⟨by decide, by decide⟩ (by decide) (by simp) w _ k) ?_)
  rintro _ _ ⟨rfl, rfl⟩
  refine VC_sound tabOk 100 ?_
  show Go _ _ _ _
  refine Go_ops rfl (OpTo_mcall (txB m b1 b2 ⟨3, [2], [1]⟩) (hpR h m A c vs) (List.Perm.of_eq rfl) rfl rfl rfl rfl rfl (by kernel_rfl) (fun w hb hm hio hsp k => txn_now m b1 b2 ⟨3, [2], [1]⟩ (by decide) w _ k) ?_)
  rintro _ _ ⟨S2, d2, ks2, rfl, hp2, hr2, rfl⟩
  obtain rfl := List.Perm.eq_singleton hp2
  refine VC_sound tabOk 100 ?_
  intro b13 _
  (repeat (first | refine Or.inl ⟨rfl, rfl, ?_⟩ | refine Or.inl ⟨rfl, ?_⟩ | refine Or.inr ?_))
  (repeat (first | refine Or.inl ⟨rfl, rfl, ?_⟩ | refine Or.inl ⟨rfl, ?_⟩ | refine Or.inr ?_))
  have hvs : VsI vs := fun x hx => ⟨.inl (hF x hx).1, .inl (hF x hx).2⟩
  refine Go_sel [5, 6, 2, 3, 4, 0, 1] rfl ?_
  show Go _ _ _ _
  show Go _ _ _ _
  refine Go_ops rfl (OpTo_ncall rfl rfl rfl rfl rfl (by kernel_rfl) (fun w hm _ => hp_scan h m b1 b2 ⟨3, [2], [1]⟩ A c vs (vw2 S2 d2) w (HpAt.of hm 0 rfl rfl rfl rfl rfl) (hm.own_rd (i := 6) rfl) (by simp) (by omega)) ?_)
  rintro _ _ ⟨ys, hy, A4, c4, rfl, rfl⟩
  rw [base_seen (by decide) hvs] at hy
  have hyl : ys.length ≤ 80 := by
    rw [hy.2.2, baseL, List.length_map]
    exact Nat.le_trans (List.length_filter_le _ _) (by omega)
  generalize hB : baseL vs = B at hy
  refine VC_sound tabOk 100 ?_
  refine Go_loop (σ := Nat × TxS × Option Addr × Nat × List VerM) (fun u => [(1, .v (.slice A9 more.length c9)), (5, .v (.pointer (some ⟨m, 0, none⟩))), (6, .v (.pointer (some ⟨h, 0, none⟩))), (13, .v (.pointer (some ⟨b13, 0, none⟩))), (14, .v (.slice A4 ys.length c4)), (15, .v (.int .i64 u.1))]) (fun u => txB m b1 b2 u.2.1 ++ hpR h m u.2.2.1 u.2.2.2.1 u.2.2.2.2 ++ [.blk b13 35 (VwM.cs (vw2 S2 d2)), own (encI .i64) 1 2 S2 d2 [2], own encR 2 38 A4 c4 ys]) (fun u => u.1 ≤ more.length ∧ SnI u.1 u.2.1 ∧ VsI u.2.2.2.2 ∧ baseL u.2.2.2.2 = B ∧ u.2.2.2.2.length ≤ 80 + u.1) (fun u => more.length - u.1) (0, ⟨3, [2], [1]⟩, A, c, vs) ⟨Nat.zero_le _, ⟨rfl, by dsimp only; omega, by dsimp only; omega, by simp⟩, hvs, hB, by dsimp only; omega⟩ ⟨rfl, rfl, rfl, rfl, rfl, rfl, trivial⟩ (fun _ h => h.sel [3, 4, 5, 1, 2, 6, 7, 0] rfl) ?_
  clear hB hvs hF hvl hlt hi vs
  rintro ⟨i, s, A, c, vs⟩ ⟨hi, hs, hvs, hB, hvl⟩
  dsimp only at hi hs hvs hB hvl ⊢
  by_cases hlt : i < more.length
  rotate_left
  · refine VC_sound tabOk 100 ?_
    refine ⟨fun h => by first | (simp at h; done) | (simp at h; omega) | (simp_all; done), fun _ => ?_⟩
    rfl
  obtain ⟨bk, ok, rfl⟩ := RdW.some encA_is hr9 (ne_nil_of_lt hlt)
  obtain ⟨a, hga⟩ : ∃ a, more[i]? = some a := ⟨_, List.getElem?_eq_getElem hlt⟩
  have hoa := hok9 a (List.mem_of_getElem? hga)
  obtain ⟨K1, hK1, hk1⟩ := tmod_nat7 4 (by decide) (bounds_u8 hoa.1).1
  obtain ⟨K2, hK2, hk2⟩ := tmod_nat7 3 (by decide) (bounds_u8 hoa.2.1).1
  obtain ⟨hb1, hb2, hb3, hb4, hb5⟩ := hs.beg (by omega)
  have hn3 : 3 ≤ s.next := hs.2.1
  refine VC_sound tabOk 100 ?_
  refine ⟨fun _ => ?_, fun h => by first | (simp at h; done) | (simp at h; omega) | (simp_all; done)⟩
  show Go _ _ _ _
  refine Go_ops rfl (OpTo_mcall (txB m b1 b2 s) (hpR h m A c vs ++ [.blk b13 35 (VwM.cs (vw2 S2 d2)), own (encI .i64) 1 2 S2 d2 [2], own encR 2 38 A4 c4 ys]) (List.Perm.of_eq rfl) rfl rfl rfl rfl rfl (by kernel_rfl) (fun w hb hm hio hsp k => txn_begin_ok m b1 b2 s hb1 hb2 hb3 w _ k) ?_)
  rintro _ _ ⟨rfl, rfl⟩
  refine VC_sound tabOk 100 ?_
  refine ⟨fun h => by first | (simp at h; done) | (simp at h; omega) | (simp_all; done), fun _ => ?_⟩
  show Go _ _ _ _
  refine Go_ops rfl (OpTo_mcall (txB m b1 b2 (begS s)) (hpR h m A c vs ++ [.blk b13 35 (VwM.cs (vw2 S2 d2)), own (encI .i64) 1 2 S2 d2 [2], own encR 2 38 A4 c4 ys]) (List.Perm.of_eq rfl) rfl rfl rfl rfl rfl (by kernel_rfl) (fun w hb hm hio hsp k => txn_now m b1 b2 (begS s) (by rw [hb4]; simp) w _ k) ?_)
  rintro _ _ ⟨S5, d5, ks, rfl, hp5, hr5, rfl⟩
  have hkl : ks.length = 2 := by rw [hp5.length_eq, hb4]; rfl
  refine VC_sound tabOk 100 ?_
  intro b18 _
  (repeat (first | refine Or.inl ⟨rfl, rfl, ?_⟩ | refine Or.inl ⟨rfl, ?_⟩ | refine Or.inr ?_))
  show Go _ _ _ _
  refine Go_any mixed [13] [(0, false), (1, false), (2, false), (3, false), (6, false), (7, false), (8, false), (9, false), (4, false), (5, false), (10, false), (11, false), (12, true), (13, true)] rfl (by kernel_rfl) (by kernel_rfl) [] (fun w => RdW w (some ⟨bk, ok, none⟩) (more.flatMap encA)) (fun w w' hk h => h.old hk) (fun w hm _ => ⟨trivial, hr9.mod hm⟩) ?_
  refine VC_sound tabOk 100 ?_
  refine ⟨⟨by omega, by omega⟩, ?_⟩
  refine ⟨⟨by omega, by omega⟩, ?_⟩
  refine Go_first (v := .int .i64 a.key) rfl rfl rfl rfl (fun w _ hw => rxLoadPart tabOk rfl encA_is hw hga (off := 2) rfl (by first | (simp only [addA]; rfl) | rfl)) ?_
  refine VC_sound tabOk 100 ?_
  refine ⟨by decide, _, rfl, ?_⟩
  (repeat (first | refine Or.inl ⟨rfl, rfl, ?_⟩ | refine Or.inl ⟨rfl, ?_⟩ | refine Or.inr ?_))
  refine Go_first (v := .string a.text) rfl rfl rfl rfl (fun w _ hw => rxLoadPart tabOk rfl encA_is hw hga (off := 3) rfl (by first | (simp only [addA]; rfl) | rfl)) ?_
  refine VC_sound tabOk 100 ?_
  intro b19 _
  (repeat (first | refine Or.inl ⟨rfl, rfl, ?_⟩ | refine Or.inl ⟨rfl, ?_⟩ | refine Or.inr ?_))
  refine ⟨⟨by omega, by omega⟩, ?_⟩
  (repeat (first | refine Or.inl ⟨rfl, rfl, ?_⟩ | refine Or.inl ⟨rfl, ?_⟩ | refine Or.inr ?_))
  refine Go_ops rfl (OpTo_loadPart tabOk encA_is (n := i) (j := 0) (.int .u8 a.d) rfl rfl rfl (fun w hm _ => hr9.mod hm) hga rfl (by first | (simp only [addA]; rfl) | rfl) ?_)
  refine VC_sound tabOk 1 ?_
  refine ⟨by decide, _, hK1.symm, ?_⟩
  show Go _ (KI.code (Code.block _ _) :: _) _ _
  refine Go_cut (σ := Option Addr × Nat × List VerM) (fun u => [(1, .v (.slice (some ⟨bk, ok, none⟩) more.length c9)), (5, .v (.pointer (some ⟨m, 0, none⟩))), (6, .v (.pointer (some ⟨h, 0, none⟩))), (13, .v (.pointer (some ⟨b13, 0, none⟩))), (14, .v (.slice A4 ys.length c4)), (15, .v (.int .i64 i)), (16, .v (.int .i64 s.next))])
    (fun u => hpX h m b1 b2 (begS s) u.1 u.2.1 u.2.2 ++ [.blk b13 35 (VwM.cs (vw2 S2 d2)), own (encI .i64) 1 2 S2 d2 [2], own encR 2 38 A4 c4 ys]) (fun u => Stp vs u.2.2) ?_ ?_
  · refine VC_sound tabOk 100 ?_
    refine ⟨fun hc => ?_, fun hc => ?_⟩
    · (repeat (first | refine Or.inl ⟨rfl, rfl, ?_⟩ | refine Or.inl ⟨rfl, ?_⟩ | refine Or.inr ?_))
      refine Go_sel [6, 7, 3, 4, 5, 0, 1, 2, 8, 9, 10] rfl ?_
      show Go _ _ _ _
      show Go _ _ _ _
      refine Go_ops rfl (OpTo_mcall (hpX h m b1 b2 (begS s) A c vs) [.blk b19 38 (encR ⟨a.key.tmod 9, a.text⟩), .blk b18 35 (VwM.cs ⟨s.next + 1, S5, d5, ks, s.next⟩), own (encI .i64) 1 2 S5 d5 ks, .blk b13 35 (VwM.cs (vw2 S2 d2)), own (encI .i64) 1 2 S2 d2 [2], own encR 2 38 A4 c4 ys] (List.Perm.of_eq rfl) rfl rfl rfl rfl rfl (by kernel_rfl) (fun w hb hm hio hsp k => hp_insert h m b1 b2 (begS s) A c vs ⟨s.next + 1, S5, d5, ks, s.next⟩ ⟨a.key.tmod 9, a.text⟩ (by omega) (by dsimp only; omega) w _ k (RdF.of_split hsp fun Rs w h => h.own_behind (i := 2) rfl)) ?_)
      rintro _ _ ⟨rfl, A', c', rfl⟩
      refine VC_sound tabOk 100 ?_
      exact Go_put (A', c', insVs (stE (begS s)) ⟨s.next + 1, S5, d5, ks, s.next⟩ vs ⟨a.key.tmod 9, a.text⟩) (Stp.ins (v := ⟨s.next + 1, S5, d5, ks, s.next⟩) hn3 vs _) ⟨rfl, rfl, rfl, rfl, rfl, rfl, rfl, trivial⟩ (fun _ h => h.sel [0, 1, 2, 3, 4, 8, 9, 10] rfl)
    refine ⟨fun hc2 => ?_, fun hc2 => ?_⟩
    · (repeat (first | refine Or.inl ⟨rfl, rfl, ?_⟩ | refine Or.inl ⟨rfl, ?_⟩ | refine Or.inr ?_))
      refine Go_sel [6, 7, 3, 4, 5, 0, 1, 2, 8, 9, 10] rfl ?_
      show Go _ _ _ _
      show Go _ _ _ _
      refine Go_ops rfl (OpTo_mcall (hpX h m b1 b2 (begS s) A c vs) [.blk b19 38 (encR ⟨a.key.tmod 9, a.text⟩), .blk b18 35 (VwM.cs ⟨s.next + 1, S5, d5, ks, s.next⟩), own (encI .i64) 1 2 S5 d5 ks, .blk b13 35 (VwM.cs (vw2 S2 d2)), own (encI .i64) 1 2 S2 d2 [2], own encR 2 38 A4 c4 ys] (List.Perm.of_eq rfl) rfl rfl rfl rfl rfl (by kernel_rfl) (fun w hb hm hio hsp k => hp_update h m b1 b2 (begS s) A c vs ⟨s.next + 1, S5, d5, ks, s.next⟩ ⟨a.key.tmod 9, a.text⟩ (by omega) (by dsimp only; omega) w _ k (RdF.of_split hsp fun Rs w h => h.own_behind (i := 2) rfl)) ?_)
      rintro _ _ ⟨e, vs', A', c', hq, rfl, rfl⟩
      refine VC_sound tabOk 100 ?_
      exact Go_put (A', c', vs') (Stp.upd (v := ⟨s.next + 1, S5, d5, ks, s.next⟩) hn3 hq) ⟨rfl, rfl, rfl, rfl, rfl, rfl, rfl, trivial⟩ (fun _ h => h.sel [0, 1, 2, 3, 4, 8, 9, 10] rfl)
    refine ⟨fun hc3 => ?_, fun hc3 => ?_⟩
    · (repeat (first | refine Or.inl ⟨rfl, rfl, ?_⟩ | refine Or.inl ⟨rfl, ?_⟩ | refine Or.inr ?_))
      refine Go_sel [6, 7, 3, 4, 5, 0, 1, 2, 8, 9, 10] rfl ?_
      show Go _ _ _ _
      show Go _ _ _ _
      refine Go_ops rfl (OpTo_mcall (hpX h m b1 b2 (begS s) A c vs) [.blk b19 38 (encR ⟨a.key.tmod 9, a.text⟩), .blk b18 35 (VwM.cs ⟨s.next + 1, S5, d5, ks, s.next⟩), own (encI .i64) 1 2 S5 d5 ks, .blk b13 35 (VwM.cs (vw2 S2 d2)), own (encI .i64) 1 2 S2 d2 [2], own encR 2 38 A4 c4 ys] (List.Perm.of_eq rfl) rfl rfl rfl rfl rfl (by kernel_rfl) (fun w hb hm hio hsp k => hp_delete h m b1 b2 (begS s) A c vs ⟨s.next + 1, S5, d5, ks, s.next⟩ (a.key.tmod 9) (by omega) (by dsimp only; omega) w _ k (RdF.of_split hsp fun Rs w h => h.own_behind (i := 2) rfl)) ?_)
      rintro _ _ ⟨e, vs', hq, rfl, rfl⟩
      refine VC_sound tabOk 100 ?_
      exact Go_put (A, c, vs') (Stp.kill (v := ⟨s.next + 1, S5, d5, ks, s.next⟩) hn3 hq) ⟨rfl, rfl, rfl, rfl, rfl, rfl, rfl, trivial⟩ (fun _ h => h.sel [0, 1, 2, 3, 4, 8, 9, 10] rfl)
    · (repeat (first | refine Or.inl ⟨rfl, rfl, ?_⟩ | refine Or.inl ⟨rfl, ?_⟩ | refine Or.inr ?_))
      refine Go_sel [6, 7, 3, 4, 5, 0, 1, 2, 8, 9, 10] rfl ?_
      show Go _ _ _ _
      show Go _ _ _ _
      refine Go_ops rfl (OpTo_mcall (hpX h m b1 b2 (begS s) A c vs) [.blk b19 38 (encR ⟨a.key.tmod 9, a.text⟩), .blk b18 35 (VwM.cs ⟨s.next + 1, S5, d5, ks, s.next⟩), own (encI .i64) 1 2 S5 d5 ks, .blk b13 35 (VwM.cs (vw2 S2 d2)), own (encI .i64) 1 2 S2 d2 [2], own encR 2 38 A4 c4 ys] (List.Perm.of_eq rfl) rfl rfl rfl rfl rfl (by kernel_rfl) (fun w hb hm hio hsp k => hp_truncate h m b1 b2 (begS s) A c vs ⟨s.next + 1, S5, d5, ks, s.next⟩ (by omega) (by dsimp only; omega) w _ k (RdF.of_split hsp fun Rs w h => h.own_behind (i := 2) rfl)) ?_)
      rintro _ _ (⟨_, rfl, rfl⟩ | ⟨_, ht, rfl, rfl⟩ | ⟨_, ht, zs, A3, c3, hz, rfl, rfl⟩)
      · refine VC_sound tabOk 100 ?_
        exact Go_put (A, c, vs) (Stp.refl vs) ⟨rfl, rfl, rfl, rfl, rfl, rfl, rfl, trivial⟩ (fun _ h => h.sel [0, 1, 2, 3, 4, 8, 9, 10] rfl)
      · refine VC_sound tabOk 100 ?_
        exact Go_put (A, c, vs) (Stp.refl vs) ⟨rfl, rfl, rfl, rfl, rfl, rfl, rfl, trivial⟩ (fun _ h => h.sel [0, 1, 2, 3, 4, 8, 9, 10] rfl)
      · refine VC_sound tabOk 100 ?_
        exact Go_put (A, c, vs.map (endV (stE (begS s)) ⟨s.next + 1, S5, d5, ks, s.next⟩)) (Stp.end_ (v := ⟨s.next + 1, S5, d5, ks, s.next⟩) hn3 vs) ⟨rfl, rfl, rfl, rfl, rfl, rfl, rfl, trivial⟩ (fun _ h => h.sel [1, 2, 3, 4, 5, 9, 10, 11] rfl)
  clear hr5 hp5 hkl
  rintro ⟨A', c', vs'⟩ hst
  dsimp only at hst ⊢
  have hvl' := hst.len
  refine VC_sound tabOk 100 ?_
  refine ⟨⟨by omega, by omega⟩, ?_⟩
  (repeat (first | refine Or.inl ⟨rfl, rfl, ?_⟩ | refine Or.inl ⟨rfl, ?_⟩ | refine Or.inr ?_))
  refine Go_ops rfl (OpTo_loadPart tabOk encA_is (n := i) (j := 1) (.int .u8 a.who) rfl rfl rfl (fun w hm _ => hr9.mod hm) hga rfl (by first | (simp only [addA]; rfl) | rfl) ?_)
  refine VC_sound tabOk 2 ?_
  refine ⟨by decide, _, hK2.symm, ?_⟩
  show Go _ (KI.code (Code.cond _ _ _) :: _) _ _
  have hdel : del s.next (begS s).O = [2] := by have h2 : ¬ (2 : Int) = s.next := by omega
                                                rw [hb4]; simp [del, h2]
  refine Go_cut (σ := List Int) (fun u => [(1, .v (.slice (some ⟨bk, ok, none⟩) more.length c9)), (5, .v (.pointer (some ⟨m, 0, none⟩))), (6, .v (.pointer (some ⟨h, 0, none⟩))), (13, .v (.pointer (some ⟨b13, 0, none⟩))), (14, .v (.slice A4 ys.length c4)), (15, .v (.int .i64 i))])
    (fun u => hpX h m b1 b2 ⟨s.next + 1, [2], u⟩ A' c' vs' ++ [.blk b13 35 (VwM.cs (vw2 S2 d2)), own (encI .i64) 1 2 S2 d2 [2], own encR 2 38 A4 c4 ys]) (fun u => 1 ∈ u) ?_ ?_
  · refine VC_sound tabOk 100 ?_
    refine ⟨fun hc => ?_, fun hc => ?_⟩
    · refine Go_sel [2, 3, 4, 0, 1, 5, 6, 7] rfl ?_
      show Go _ _ _ _
      show Go _ _ _ _
      refine Go_ops rfl (OpTo_mcall (txB m b1 b2 (begS s)) (hpR h m A' c' vs' ++ [.blk b13 35 (VwM.cs (vw2 S2 d2)), own (encI .i64) 1 2 S2 d2 [2], own encR 2 38 A4 c4 ys]) (List.Perm.of_eq rfl) rfl rfl rfl rfl rfl (by kernel_rfl) (fun w hb hm hio hsp k => txn_abort_ok m b1 b2 (begS s) s.next (by rw [hb4]; simp) w _ k) ?_)
      rintro _ _ ⟨rfl, rfl⟩
      rw [hdel]
      refine VC_sound tabOk 100 ?_
      exact Go_put s.D hs.2.2.2 ⟨rfl, rfl, rfl, rfl, rfl, rfl, trivial⟩ (fun _ h => h.sel [3, 4, 0, 1, 2, 5, 6, 7] rfl)
    · refine Go_sel [2, 3, 4, 0, 1, 5, 6, 7] rfl ?_
      show Go _ _ _ _
      show Go _ _ _ _
      refine Go_ops rfl (OpTo_mcall (txB m b1 b2 (begS s)) (hpR h m A' c' vs' ++ [.blk b13 35 (VwM.cs (vw2 S2 d2)), own (encI .i64) 1 2 S2 d2 [2], own encR 2 38 A4 c4 ys]) (List.Perm.of_eq rfl) rfl rfl rfl rfl rfl (by kernel_rfl) (fun w hb hm hio hsp k => txn_commit_ok m b1 b2 (begS s) s.next (by rw [hb4]; simp) w _ k) ?_)
      rintro _ _ ⟨rfl, rfl⟩
      rw [hdel]
      refine VC_sound tabOk 100 ?_
      exact Go_put (ins s.next s.D) (by have := hs.2.2.2; unfold ins; split <;> simp [this]) ⟨rfl, rfl, rfl, rfl, rfl, rfl, trivial⟩ (fun _ h => h.sel [3, 4, 0, 1, 2, 5, 6, 7] rfl)
  intro D hD
  have hs' : SnI (i + 1) ⟨s.next + 1, [2], D⟩ := ⟨rfl, by dsimp only; omega, by have := hs.2.2.1; dsimp only; omega, hD⟩
  have hv' := hst.ok hvs
  refine VC_sound tabOk 100 ?_
  (repeat (first | refine Or.inl ⟨rfl, rfl, ?_⟩ | refine Or.inl ⟨rfl, ?_⟩ | refine Or.inr ?_))
  show Go _ _ _ _
  refine Go_ops rfl (OpTo_ncall rfl rfl rfl rfl rfl (by kernel_rfl) (fun w hm _ => hp_scan h m b1 b2 ⟨s.next + 1, [2], D⟩ A' c' vs' (vw2 S2 d2) w (HpAt.of hm 0 rfl rfl rfl rfl rfl) (hm.own_rd (i := 6) rfl) (by simp) (by omega)) ?_)
  rintro _ _ ⟨zs, hz, A5, c5, rfl, rfl⟩
  rw [base_seen hs'.one hv', hst.base, hB] at hz
  obtain rfl := hy.unique hz
  refine VC_sound tabOk 100 ?_
  refine Go_ops rfl (OpTo_pcall (v := .bool true) rfl rfl rfl rfl rfl (by kernel_rfl) (fun w hm _ => l07_rows A5 A4 c5 c4 ys w (hm.own_rd (i := 0) rfl) (hm.own_rd (i := 8) rfl) (by omega)) ?_)
  refine VC_sound tabOk 100 ?_
  refine ⟨fun h => by first | (simp at h; done) | (simp at h; omega) | (simp_all; done), fun _ => ?_⟩
  refine ⟨_, wrap_i64 (n := (i : Int) + 1) (by omega) (by omega), ?_⟩
  exact Go_fin (i + 1, ⟨s.next + 1, [2], D⟩, A', c', vs') ⟨by dsimp only; omega, hs', hv', by rw [← hB]; exact hst.base, by dsimp only; omega⟩ (by dsimp only; omega) ⟨rfl, rfl, rfl, rfl, rfl, rfl, trivial⟩ (fun _ h => h.sel [3, 4, 5, 1, 2, 6, 7, 8] rfl)
end Go.Proofs.Ytobffgjilojpfaa
