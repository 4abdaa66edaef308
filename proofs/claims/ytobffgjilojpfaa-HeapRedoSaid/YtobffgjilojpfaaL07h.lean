/- The law HeapRedo: what its run comes to. -/
import Derived.Test.YtobffgjilojpfaaL07g
import Derived.Test.YtobffgjilojpfaaL07c
set_option maxRecDepth 100000
set_option autoImplicit false
set_option linter.unusedVariables false
set_option linter.unusedSimpArgs false
namespace Go.Proofs.Ytobffgjilojpfaa
open Go.RX Go Go.RowKit Go.ChangeShapes Go.WideShapes Go.ChangeAt


set_option maxHeartbeats 16000000 in
theorem l07_HeapRedo (A0 : Option Addr) (c0 : Nat) (l : List ActM) (w0 : World) (hr : RdW w0 A0 (l.flatMap encA)) (hok : ∀ z ∈ l, okA w0 z) (hl : l.length ≤ 9223372036854775807) :
    Calls Try.prog 5 #[.slice A0 l.length c0] w0 fun e w' => e = .returned (.bool true) ∧ BelowD w0.heap.size w0 w' := by
  refine enterP (tab := tab) Try.func5 rfl Try.ntmps5 rfl (args := [_]) rfl ?_
  refine VC_sound tabOk 100 ?_
  refine Go_ops rfl (OpTo_pcall (v := .bool true) rfl rfl rfl rfl rfl (by kernel_rfl) (fun w hm _ => l07_clash w) ?_)
  refine VC_sound tabOk 100 ?_
  refine ⟨fun h => by first | (simp at h; done) | (simp at h; omega) | (simp_all; done), fun _ => ?_⟩
  refine Go_ops rfl (OpTo_pcall (v := .bool (smallP l)) rfl rfl rfl rfl rfl (by kernel_rfl) (fun w hm _ => l07_small A0 c0 l w (hr.mod hm) hl) ?_)
  refine VC_sound tabOk 100 ?_
  refine ⟨fun hc => ?_, fun hc => ?_⟩
  · refine Go_ops rfl (OpTo_pcall (v := .bool true) rfl rfl rfl rfl rfl (by kernel_rfl) (fun w hm _ => l07_clash w) ?_)
    refine VC_sound tabOk 100 ?_
    rfl
  have hl80 : l.length ≤ 80 := smallP_len (by simpa using hc)
  show Go _ _ _ _
  refine Go_ops rfl (OpTo_ncall rfl rfl rfl rfl rfl (by kernel_rfl) (fun w hm _ => txn_new w) ?_)
  rintro _ _ ⟨m, b1, b2, rfl, rfl⟩
  refine VC_sound tabOk 100 ?_
  show Go _ _ _ _
  refine Go_ops rfl (OpTo_ncall rfl rfl rfl rfl rfl (by kernel_rfl) (fun w hm _ => txn_new w) ?_)
  rintro _ _ ⟨n, b3, b4, rfl, rfl⟩
  refine VC_sound tabOk 100 ?_
  show Go _ _ _ _
  refine Go_ops rfl (OpTo_ncall rfl rfl rfl rfl rfl (by kernel_rfl) (fun w hm _ => hp_new _ w) ?_)
  rintro _ _ ⟨h, rfl, rfl⟩
  refine VC_sound tabOk 100 ?_
  show Go _ _ _ _
  refine Go_ops rfl (OpTo_ncall rfl rfl rfl rfl rfl (by kernel_rfl) (fun w hm _ => hp_new _ w) ?_)
  rintro _ _ ⟨g, rfl, rfl⟩
  refine VC_sound tabOk 100 ?_
  refine Go_loop (σ := Nat × TxS × Option Addr × Nat × Option Addr × Nat × List VerM) (fun u => [(0, .v (.slice A0 l.length c0)), (3, .v (.pointer (some ⟨m, 0, none⟩))), (4, .v (.pointer (some ⟨n, 0, none⟩))), (5, .v (.pointer (some ⟨h, 0, none⟩))), (6, .v (.pointer (some ⟨g, 0, none⟩))), (7, .v (.int .i64 u.1))]) (fun u => txB m b1 b2 u.2.1 ++ (txB n b3 b4 u.2.1 ++ (hpR h m u.2.2.1 u.2.2.2.1 u.2.2.2.2.2.2 ++ hpR g n u.2.2.2.2.1 u.2.2.2.2.2.1 u.2.2.2.2.2.2))) (fun u => u.1 ≤ l.length ∧ RdI u.1 u.2.1 ∧ VsR u.1 u.2.2.2.2.2.2) (fun u => l.length - u.1) (0, ⟨1, [], []⟩, none, 0, none, 0, []) ⟨Nat.zero_le _, ⟨rfl, rfl, fun x h1 h2 => by dsimp only at h2; omega⟩, ⟨Nat.zero_le _, by simp⟩⟩ ⟨rfl, rfl, rfl, rfl, rfl, rfl, trivial⟩ (fun _ h => ((h.own_nil (enc := encV) (k := 4) (T := 76) none).own_nil (enc := encV) (k := 4) (T := 76) none).sel [7, 8, 9, 4, 5, 6, 3, 1, 2, 0] rfl) ?_
  rintro ⟨i, s, A, c, A2, c2, vs⟩ ⟨hi, hs, hv⟩
  dsimp only at hi hs hv ⊢
  have hvl := hv.len
  have hnx := hs.nx
  by_cases hlt : i < l.length
  rotate_left
  · refine VC_sound tabOk 100 ?_
    refine ⟨fun h => by first | (simp at h; done) | (simp at h; omega) | (simp_all; done), fun _ => ?_⟩
    rfl
  obtain ⟨bk, ok, rfl⟩ := RdW.some encA_is hr (ne_nil_of_lt hlt)
  obtain ⟨a, hga⟩ : ∃ a, l[i]? = some a := ⟨_, List.getElem?_eq_getElem hlt⟩
  have hoa := hok a (List.mem_of_getElem? hga)
  obtain ⟨K1, hK1, hk1⟩ := tmod_nat7 3 (by decide) (bounds_u8 hoa.1).1
  have hbk : begOk s := ⟨by rw [hs.op]; decide, by omega⟩
  have hno : ¬ s.next ∈ s.O := by rw [hs.op]; simp
  have hbO : (begS s).O = [s.next] := by rw [hs.beg]
  refine VC_sound tabOk 100 ?_
  refine ⟨fun _ => ?_, fun h => by first | (simp at h; done) | (simp at h; omega) | (simp_all; done)⟩
  show Go _ _ _ _
  refine Go_ops rfl (OpTo_mcall (txB m b1 b2 s) (txB n b3 b4 s ++ (hpR h m A c vs ++ hpR g n A2 c2 vs)) (List.Perm.of_eq rfl) rfl rfl rfl rfl rfl (by kernel_rfl) (fun w hb hm hio hsp k => txn_begin_ok m b1 b2 s hbk (by omega) hno w _ k) ?_)
  rintro _ _ ⟨rfl, rfl⟩
  refine VC_sound tabOk 100 ?_
  refine Go_sel [3, 4, 5, 0, 1, 2, 6, 7, 8, 9] rfl ?_
  show Go _ _ _ _
  show Go _ _ _ _
  refine Go_ops rfl (OpTo_mcall (txB n b3 b4 s) (txB m b1 b2 (begS s) ++ (hpR h m A c vs ++ hpR g n A2 c2 vs)) (List.Perm.of_eq rfl) rfl rfl rfl rfl rfl (by kernel_rfl) (fun w hb hm hio hsp k => txn_begin_ok n b3 b4 s hbk (by omega) hno w _ k) ?_)
  rintro _ _ ⟨rfl, rfl⟩
  refine VC_sound tabOk 100 ?_
  refine ⟨fun h => by first | (simp at h; done) | (simp at h; omega) | (simp_all; done), fun _ => ?_⟩
  refine ⟨fun h => by first | (simp at h; done) | (simp at h; omega) | (simp_all; done), fun _ => ?_⟩
  refine ⟨fun h => by first | (simp at h; done) | (simp at h; omega) | (simp_all; done), fun _ => ?_⟩
  refine Go_sel [3, 4, 5, 0, 1, 2, 6, 7, 8, 9] rfl ?_
  show Go _ _ _ _
  show Go _ _ _ _
  refine Go_ops rfl (OpTo_mcall (txB m b1 b2 (begS s)) (txB n b3 b4 (begS s) ++ (hpR h m A c vs ++ hpR g n A2 c2 vs)) (List.Perm.of_eq rfl) rfl rfl rfl rfl rfl (by kernel_rfl) (fun w hb hm hio hsp k => txn_now m b1 b2 (begS s) (by rw [hbO]; simp) w _ k) ?_)
  rintro _ _ ⟨S, d, ks, rfl, hp, hrr, rfl⟩
  rw [hbO] at hp
  obtain rfl := List.Perm.eq_singleton hp
  refine VC_sound tabOk 100 ?_
  intro b12 _
  (repeat (first | refine Or.inl ⟨rfl, rfl, ?_⟩ | refine Or.inl ⟨rfl, ?_⟩ | refine Or.inr ?_))
  show Go _ _ _ _
  refine Go_any mixed [13] [(0, false), (1, false), (2, false), (3, false), (6, false), (7, false), (8, false), (9, false), (4, false), (5, false), (10, false), (11, false), (12, true), (13, true)] rfl (by kernel_rfl) (by kernel_rfl) [] (fun w => RdW w (some ⟨bk, ok, none⟩) (l.flatMap encA)) (fun w w' hk h => h.old hk) (fun w hm _ => ⟨trivial, hr.mod hm⟩) ?_
  refine VC_sound tabOk 100 ?_
  refine ⟨⟨by omega, by omega⟩, ?_⟩
  refine ⟨⟨by omega, by omega⟩, ?_⟩
  refine Go_first (v := .int .i64 a.key) rfl rfl rfl rfl (fun w _ hw => rxLoadPart tabOk rfl encA_is hw hga (off := 2) rfl (by simp only [addA]; rfl)) ?_
  refine VC_sound tabOk 100 ?_
  refine ⟨by decide, _, rfl, ?_⟩
  (repeat (first | refine Or.inl ⟨rfl, rfl, ?_⟩ | refine Or.inl ⟨rfl, ?_⟩ | refine Or.inr ?_))
  refine Go_first (v := .string a.text) rfl rfl rfl rfl (fun w _ hw => rxLoadPart tabOk rfl encA_is hw hga (off := 3) rfl (by simp only [addA]; rfl)) ?_
  refine VC_sound tabOk 100 ?_
  intro b13 _
  (repeat (first | refine Or.inl ⟨rfl, rfl, ?_⟩ | refine Or.inl ⟨rfl, ?_⟩ | refine Or.inr ?_))
  refine ⟨⟨by omega, by omega⟩, ?_⟩
  (repeat (first | refine Or.inl ⟨rfl, rfl, ?_⟩ | refine Or.inl ⟨rfl, ?_⟩ | refine Or.inr ?_))
  refine Go_ops rfl (OpTo_loadPart tabOk encA_is (n := i) (j := 0) (.int .u8 a.d) rfl rfl rfl (fun w hm _ => hr.mod hm) hga rfl (by first | (simp only [addA]; rfl) | rfl) ?_)
  refine VC_sound tabOk 1 ?_
  refine ⟨by decide, _, hK1.symm, ?_⟩
  show Go _ (KI.code (Code.block _ _) :: _) _ _
  refine Go_res (hpX h m b1 b2 (begS s) A c vs ++ ([.blk b13 38 (encR ⟨a.key.tmod 5, a.text⟩), .blk b12 35 (VwM.cs (vwN s S d)), own (encI .i64) 1 2 S d [s.next], own encO 3 54 none 0 []] ++ (txB n b3 b4 (begS s) ++ hpR g n A2 c2 vs))) (fun _ h => (h.own_nil (enc := encO) (k := 3) (T := 54) none).sel [10, 11, 4, 5, 6, 1, 2, 3, 0, 7, 8, 9, 12, 13] rfl) ?_
  refine Go_cut (σ := Option Addr × Nat × List VerM × Option Addr × Nat × List OpM) (fun u => [(0, .v (.slice (some ⟨bk, ok, none⟩) l.length c0)), (3, .v (.pointer (some ⟨m, 0, none⟩))), (4, .v (.pointer (some ⟨n, 0, none⟩))), (5, .v (.pointer (some ⟨h, 0, none⟩))), (6, .v (.pointer (some ⟨g, 0, none⟩))), (7, .v (.int .i64 i)), (8, .v (.int .i64 s.next)), (10, .v (.int .i64 s.next)), (14, .v (.slice u.2.2.2.1 u.2.2.2.2.2.length u.2.2.2.2.1))])
    (fun u => hpX h m b1 b2 (begS s) u.1 u.2.1 u.2.2.1 ++ (own encO 3 54 u.2.2.2.1 u.2.2.2.2.1 u.2.2.2.2.2 :: (txB n b3 b4 (begS s) ++ hpR g n A2 c2 vs))) (fun u => Again i s vs u.2.2.1 u.2.2.2.2.2) ?_ ?_
  · refine VC_sound tabOk 100 ?_
    refine ⟨fun hc => ?_, fun hc => ?_⟩
    · (repeat (first | refine Or.inl ⟨rfl, rfl, ?_⟩ | refine Or.inl ⟨rfl, ?_⟩ | refine Or.inr ?_))
      show Go _ _ _ _
      refine Go_ops rfl (OpTo_mcall (hpX h m b1 b2 (begS s) A c vs) ([.blk b13 38 (encR ⟨a.key.tmod 5, a.text⟩), .blk b12 35 (VwM.cs (vwN s S d)), own (encI .i64) 1 2 S d [s.next], own encO 3 54 none 0 []] ++ (txB n b3 b4 (begS s) ++ hpR g n A2 c2 vs)) (List.Perm.of_eq rfl) rfl rfl rfl rfl rfl (by kernel_rfl) (fun w hb hm hio hsp k => hp_insert h m b1 b2 (begS s) A c vs (vwN s S d) ⟨a.key.tmod 5, a.text⟩ (by omega) (by simp) w _ k (RdF.of_split hsp fun Rs w h => h.own_behind (i := 2) rfl)) ?_)
      rintro _ _ ⟨rfl, A', c', rfl⟩
      by_cases hE : insE (stE (begS s)) (vwN s S d) vs (a.key.tmod 5) = 0
      · have ev : insVs (stE (begS s)) (vwN s S d) vs ⟨a.key.tmod 5, a.text⟩ = vs ++ [(⟨a.key.tmod 5, a.text, s.next, 0⟩ : VerM)] := by rw [insVs, if_pos hE]
        rw [ev, hE]
        refine VC_sound tabOk 100 ?_
        refine ⟨fun _ => ?_, fun h => by first | (simp at h; done) | (simp at h; omega) | (simp_all; done)⟩
        (repeat (first | refine Or.inl ⟨rfl, rfl, ?_⟩ | refine Or.inl ⟨rfl, ?_⟩ | refine Or.inr ?_))
        intro bo _
        show Go _ _ _ _
        refine Go_ops rfl (OpTo_append tabOk encO_is (ys := [(⟨false, ⟨a.key.tmod 5, a.text⟩⟩ : OpM)]) (i := 9) rfl rfl rfl rfl rfl rfl rfl rfl rfl rfl rfl (fun w hm _ => hm.blk_rd (i := 0) rfl) (by simp) (by simp) (fun A3 c3 => ?_))
        refine VC_sound tabOk 100 ?_
        exact Go_put (A', c', vs ++ [(⟨a.key.tmod 5, a.text, s.next, 0⟩ : VerM)], A3, c3, [(⟨false, ⟨a.key.tmod 5, a.text⟩⟩ : OpM)]) (Again.ins (r := ⟨a.key.tmod 5, a.text⟩) hs hv hE) ⟨rfl, rfl, rfl, rfl, rfl, rfl, rfl, rfl, rfl, trivial⟩ (fun _ h => h.sel [1, 2, 3, 4, 5, 9, 10, 11, 12, 13, 14] rfl)
      · have ev : insVs (stE (begS s)) (vwN s S d) vs ⟨a.key.tmod 5, a.text⟩ = vs := by rw [insVs, if_neg hE]
        rw [ev]
        refine VC_sound tabOk 100 ?_
        refine ⟨fun h => absurd (of_decide_eq_true h) hE, fun _ => ?_⟩
        exact Go_put (A', c', vs, none, 0, []) (Again.none_ hv) ⟨rfl, rfl, rfl, rfl, rfl, rfl, rfl, rfl, rfl, trivial⟩ (fun _ h => h.sel [0, 1, 2, 3, 4, 8, 9, 10, 11, 12, 13] rfl)
    refine ⟨fun hc2 => ?_, fun hc2 => ?_⟩
    · (repeat (first | refine Or.inl ⟨rfl, rfl, ?_⟩ | refine Or.inl ⟨rfl, ?_⟩ | refine Or.inr ?_))
      show Go _ _ _ _
      refine Go_ops rfl (OpTo_mcall (hpX h m b1 b2 (begS s) A c vs) ([.blk b13 38 (encR ⟨a.key.tmod 5, a.text⟩), .blk b12 35 (VwM.cs (vwN s S d)), own (encI .i64) 1 2 S d [s.next], own encO 3 54 none 0 []] ++ (txB n b3 b4 (begS s) ++ hpR g n A2 c2 vs)) (List.Perm.of_eq rfl) rfl rfl rfl rfl rfl (by kernel_rfl) (fun w hb hm hio hsp k => hp_update h m b1 b2 (begS s) A c vs (vwN s S d) ⟨a.key.tmod 5, a.text⟩ (by omega) (by simp) w _ k (RdF.of_split hsp fun Rs w h => h.own_behind (i := 2) rfl)) ?_)
      rintro _ _ ⟨e, vs', A', c', hq, rfl, rfl⟩
      by_cases hE : e = 0
      · subst hE
        refine VC_sound tabOk 100 ?_
        refine ⟨fun _ => ?_, fun h => by first | (simp at h; done) | (simp at h; omega) | (simp_all; done)⟩
        (repeat (first | refine Or.inl ⟨rfl, rfl, ?_⟩ | refine Or.inl ⟨rfl, ?_⟩ | refine Or.inr ?_))
        intro bo _
        show Go _ _ _ _
        refine Go_ops rfl (OpTo_append tabOk encO_is (ys := [(⟨false, ⟨a.key.tmod 5, a.text⟩⟩ : OpM)]) (i := 9) rfl rfl rfl rfl rfl rfl rfl rfl rfl rfl rfl (fun w hm _ => hm.blk_rd (i := 0) rfl) (by simp) (by simp) (fun A3 c3 => ?_))
        refine VC_sound tabOk 100 ?_
        exact Go_put (A', c', vs', A3, c3, [(⟨false, ⟨a.key.tmod 5, a.text⟩⟩ : OpM)]) (Again.upd (r := ⟨a.key.tmod 5, a.text⟩) hs hv hq) ⟨rfl, rfl, rfl, rfl, rfl, rfl, rfl, rfl, rfl, trivial⟩ (fun _ h => h.sel [1, 2, 3, 4, 5, 9, 10, 11, 12, 13, 14] rfl)
      · obtain rfl := updR_ne hs hv hq hE
        refine VC_sound tabOk 100 ?_
        refine ⟨fun h => absurd (of_decide_eq_true h) hE, fun _ => ?_⟩
        exact Go_put (A', c', _, none, 0, []) (Again.none_ hv) ⟨rfl, rfl, rfl, rfl, rfl, rfl, rfl, rfl, rfl, trivial⟩ (fun _ h => h.sel [0, 1, 2, 3, 4, 8, 9, 10, 11, 12, 13] rfl)
    · (repeat (first | refine Or.inl ⟨rfl, rfl, ?_⟩ | refine Or.inl ⟨rfl, ?_⟩ | refine Or.inr ?_))
      show Go _ _ _ _
      refine Go_ops rfl (OpTo_mcall (hpX h m b1 b2 (begS s) A c vs) ([.blk b13 38 (encR ⟨a.key.tmod 5, a.text⟩), .blk b12 35 (VwM.cs (vwN s S d)), own (encI .i64) 1 2 S d [s.next], own encO 3 54 none 0 []] ++ (txB n b3 b4 (begS s) ++ hpR g n A2 c2 vs)) (List.Perm.of_eq rfl) rfl rfl rfl rfl rfl (by kernel_rfl) (fun w hb hm hio hsp k => hp_delete h m b1 b2 (begS s) A c vs (vwN s S d) (a.key.tmod 5) (by omega) (by simp) w _ k (RdF.of_split hsp fun Rs w h => h.own_behind (i := 2) rfl)) ?_)
      rintro _ _ ⟨e, vs', hq, rfl, rfl⟩
      by_cases hE : e = 0
      · subst hE
        refine VC_sound tabOk 100 ?_
        refine ⟨fun _ => ?_, fun h => by first | (simp at h; done) | (simp at h; omega) | (simp_all; done)⟩
        (repeat (first | refine Or.inl ⟨rfl, rfl, ?_⟩ | refine Or.inl ⟨rfl, ?_⟩ | refine Or.inr ?_))
        intro bo _
        show Go _ _ _ _
        refine Go_ops rfl (OpTo_append tabOk encO_is (ys := [(⟨true, ⟨a.key.tmod 5, a.text⟩⟩ : OpM)]) (i := 9) rfl rfl rfl rfl rfl rfl rfl rfl rfl rfl rfl (fun w hm _ => hm.blk_rd (i := 0) rfl) (by simp) (by simp) (fun A3 c3 => ?_))
        refine VC_sound tabOk 100 ?_
        exact Go_put (A, c, vs', A3, c3, [(⟨true, ⟨a.key.tmod 5, a.text⟩⟩ : OpM)]) (Again.del (r := ⟨a.key.tmod 5, a.text⟩) hs hv hq) ⟨rfl, rfl, rfl, rfl, rfl, rfl, rfl, rfl, rfl, trivial⟩ (fun _ h => h.sel [1, 2, 3, 4, 5, 9, 10, 11, 12, 13, 14] rfl)
      · obtain rfl := killR_ne hs hv hq hE
        refine VC_sound tabOk 100 ?_
        refine ⟨fun h => absurd (of_decide_eq_true h) hE, fun _ => ?_⟩
        exact Go_put (A, c, _, none, 0, []) (Again.none_ hv) ⟨rfl, rfl, rfl, rfl, rfl, rfl, rfl, rfl, rfl, trivial⟩ (fun _ h => h.sel [0, 1, 2, 3, 4, 8, 9, 10, 11, 12, 13] rfl)
  rintro ⟨A1, c1, vs1, Ao, co, os⟩ hag
  dsimp only at hag ⊢
  have hsm := hag.same
  have hosl := hag.len
  have hv1 := hag.ok
  have hv1l := hv1.len
  refine VC_sound tabOk 100 ?_
  refine Go_sel [2, 3, 4, 0, 1, 5, 6, 7, 8, 9, 10] rfl ?_
  show Go _ _ _ _
  have hend : (⟨(begS s).next, del s.next (begS s).O, ins s.next (begS s).D⟩ : TxS) = endS s := by rw [hs.beg]; simp [del]
  have hin : s.next ∈ (begS s).O := by rw [hbO]; simp
  show Go _ _ _ _
  refine Go_ops rfl (OpTo_mcall (txB m b1 b2 (begS s)) (hpR h m A1 c1 vs1 ++ (own encO 3 54 Ao co os :: (txB n b3 b4 (begS s) ++ hpR g n A2 c2 vs))) (List.Perm.of_eq rfl) rfl rfl rfl rfl rfl (by kernel_rfl) (fun w hb hm hio hsp k => txn_commit_ok m b1 b2 (begS s) s.next hin w _ k) ?_)
  rintro _ _ ⟨rfl, rfl⟩
  rw [hend]
  refine VC_sound tabOk 100 ?_
  refine Go_sel [9, 10, 6, 7, 8, 0, 1, 2, 3, 4, 5] rfl ?_
  show Go _ _ _ _
  show Go _ _ _ _
  refine Go_ops rfl (OpTo_mcall (hpX g n b3 b4 (begS s) A2 c2 vs) (txB m b1 b2 (endS s) ++ (hpR h m A1 c1 vs1 ++ [own encO 3 54 Ao co os])) (List.Perm.of_eq rfl) rfl rfl rfl rfl rfl (by kernel_rfl) (fun w hb hm hio hsp k => hp_redo g n b3 b4 (begS s) A2 c2 vs s.next Ao co os (by omega) w _ k (RdF.of_split hsp fun Rs w h => h.own_behind (i := 5) rfl)) ?_)
  rintro _ _ ⟨rfl, A3, c3, rfl⟩
  have ne2 : ¬ stE (begS s) s.next = 2 := by rw [hs.own]; decide
  rw [if_neg ne2, if_neg ne2]
  refine VC_sound tabOk 100 ?_
  refine ⟨fun h => by first | (simp at h; done) | (simp at h; omega) | (simp_all; done), fun _ => ?_⟩
  refine Go_sel [2, 3, 4, 0, 1, 5, 6, 7, 8, 9, 10] rfl ?_
  show Go _ _ _ _
  show Go _ _ _ _
  refine Go_ops rfl (OpTo_mcall (txB n b3 b4 (begS s)) (hpR g n A3 c3 vs ++ (txB m b1 b2 (endS s) ++ (hpR h m A1 c1 vs1 ++ [own encO 3 54 Ao co os]))) (List.Perm.of_eq rfl) rfl rfl rfl rfl rfl (by kernel_rfl) (fun w hb hm hio hsp k => txn_commit_ok n b3 b4 (begS s) s.next hin w _ k) ?_)
  rintro _ _ ⟨rfl, rfl⟩
  rw [hend]
  refine VC_sound tabOk 100 ?_
  refine Go_sel [3, 4, 0, 1, 2, 5, 6, 7, 8, 9, 10] rfl ?_
  show Go _ _ _ _
  show Go _ _ _ _
  refine Go_ops rfl (OpTo_mcall (hpX g n b3 b4 (endS s) A3 c3 vs) (txB m b1 b2 (endS s) ++ (hpR h m A1 c1 vs1 ++ [own encO 3 54 Ao co os])) (List.Perm.of_eq rfl) rfl rfl rfl rfl rfl (by kernel_rfl) (fun w hb hm hio hsp k => hp_redo g n b3 b4 (endS s) A3 c3 vs s.next Ao co os (by omega) w _ k (RdF.of_split hsp fun Rs w h => h.own_behind (i := 5) rfl)) ?_)
  rintro _ _ ⟨rfl, A4, c4, rfl⟩
  have e2 : stE (endS s) s.next = 2 := hs.nxt.st (by omega) (by omega)
  rw [if_pos e2, if_pos e2, hsm]
  refine VC_sound tabOk 100 ?_
  refine ⟨fun h => by first | (simp at h; done) | (simp at h; omega) | (simp_all; done), fun _ => ?_⟩
  refine Go_sel [5, 6, 7, 0, 1, 2, 3, 4, 8, 9] rfl ?_
  show Go _ _ _ _
  show Go _ _ _ _
  refine Go_ops rfl (OpTo_mcall (txB m b1 b2 (endS s)) (hpX g n b3 b4 (endS s) A4 c4 vs1 ++ hpR h m A1 c1 vs1) (List.Perm.of_eq rfl) rfl rfl rfl rfl rfl (by kernel_rfl) (fun w hb hm hio hsp k => txn_now m b1 b2 (endS s) (by simp) w _ k) ?_)
  rintro _ _ ⟨S5, d5, ks5, rfl, hp5, hr5, rfl⟩
  obtain rfl := List.Perm.eq_nil hp5
  refine VC_sound tabOk 100 ?_
  show Go _ _ _ _
  refine Go_ops rfl (OpTo_ncall rfl rfl rfl rfl rfl (by kernel_rfl) (fun w hm _ => hp_scan h m b1 b2 (endS s) A1 c1 vs1 ⟨s.next + 1, S5, d5, [], 0⟩ w (by have := hm.sel [9, 10, 1, 2, 3] rfl; exact HpAt.of this 0 rfl rfl rfl rfl rfl) (hm.own_rd (i := 0) rfl) (by simp) (by omega)) ?_)
  rintro _ _ ⟨ys, hy, A5, c5, rfl, rfl⟩
  refine VC_sound tabOk 100 ?_
  refine Go_sel [7, 8, 9, 0, 2, 3, 4, 5, 6, 10, 11] rfl ?_
  show Go _ _ _ _
  show Go _ _ _ _
  refine Go_ops rfl (OpTo_mcall (txB n b3 b4 (endS s)) (own encR 2 38 A5 c5 ys :: (txB m b1 b2 (endS s) ++ (hpR g n A4 c4 vs1 ++ hpR h m A1 c1 vs1))) (List.Perm.of_eq rfl) rfl rfl rfl rfl rfl (by kernel_rfl) (fun w hb hm hio hsp k => txn_now n b3 b4 (endS s) (by simp) w _ k) ?_)
  rintro _ _ ⟨S6, d6, ks6, rfl, hp6, hr6, rfl⟩
  obtain rfl := List.Perm.eq_nil hp6
  refine VC_sound tabOk 100 ?_
  show Go _ _ _ _
  refine Go_ops rfl (OpTo_ncall rfl rfl rfl rfl rfl (by kernel_rfl) (fun w hm _ => hp_scan g n b3 b4 (endS s) A4 c4 vs1 ⟨s.next + 1, S6, d6, [], 0⟩ w (by have := hm.sel [8, 9, 1, 2, 3] rfl; exact HpAt.of this 0 rfl rfl rfl rfl rfl) (hm.own_rd (i := 0) rfl) (by simp) (by omega)) ?_)
  rintro _ _ ⟨zs, hz, A6, c6, rfl, rfl⟩
  obtain rfl := SrtS.unique hy hz
  have hyl : ys.length ≤ 81 := by
    rw [hy.2.2, seenL, List.length_map]
    exact Nat.le_trans (List.length_filter_le _ _) (by omega)
  refine VC_sound tabOk 100 ?_
  refine Go_ops rfl (OpTo_pcall (v := .bool true) rfl rfl rfl rfl rfl (by kernel_rfl) (fun w hm _ => l07_rows A5 A6 c5 c6 ys w (hm.own_rd (i := 5) rfl) (hm.own_rd (i := 0) rfl) (by omega)) ?_)
  refine VC_sound tabOk 100 ?_
  refine ⟨fun h => by first | (simp at h; done) | (simp at h; omega) | (simp_all; done), fun _ => ?_⟩
  refine ⟨_, wrap_i64 (n := (i : Int) + 1) (by omega) (by omega), ?_⟩
  exact Go_fin (i + 1, endS s, A1, c1, A4, c4, vs1) ⟨by dsimp only; omega, hs.nxt, hv1⟩ (by dsimp only; omega) ⟨rfl, rfl, rfl, rfl, rfl, rfl, trivial⟩ (fun _ h => h.sel [6, 7, 8, 2, 3, 4, 11, 12, 9, 10] rfl)
end Go.Proofs.Ytobffgjilojpfaa
