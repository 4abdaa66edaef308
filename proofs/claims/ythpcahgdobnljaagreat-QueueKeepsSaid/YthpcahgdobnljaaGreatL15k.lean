/- The law QueueKeeps: what its run comes to. -/
import Derived.Test.YthpcahgdobnljaaGreatPs
set_option maxRecDepth 100000
set_option autoImplicit false
set_option linter.unusedVariables false
set_option linter.unusedSimpArgs false
namespace Go.Proofs.YthpcahgdobnljaaGreat
open Go.RX Go Go.RowKit Go.ChangeShapes Go.WideShapes Go.ChangeAt

def WantE (P : RS) (e : EventM) : Prop := rState P.R e.tx = 1 ∨ (rState P.R e.tx = 2 ∧ ∃ y ∈ P.ys, snSees (Tk.fdT (Tk.tkIs y.last) P.us).mx (Tk.fdT (Tk.tkIs y.last) P.us).op e.tx = false)
/-- What stays while tables turn. -/
structure KInv (S : QS) (P : RS) (S' : QS) : Prop where
  cs : S'.cs = S.cs
  ts : S'.ts = S.ts
  lst : S'.last = S.last
  s : S'.s = S.s
  cur : S'.cur < 3
  len : Sp.len3 S'.T ≤ Sp.len3 S.T
  keep : ∀ e ∈ P3 S.T, WantE P e → e ∈ P3 S'.T
theorem P3_stay (T : Sp.Tbs) (k : Nat) (hk : k < 3) {e : EventM} (he : e ∈ P3 T) (hn : ¬ e ∈ (Sp.get3 T k).xs) : e ∈ P3 (Sp.set3 T k Sp.noTb) := by
  have hk' : k = 0 ∨ k = 1 ∨ k = 2 := by omega
  rcases hk' with rfl | rfl | rfl <;> simp [P3, Sp.pre3, Sp.set3, Sp.get3, Sp.pick3, Sp.noTb] at he hn ⊢ <;> simpa [hn] using he
theorem len3_clear (T : Sp.Tbs) (k : Nat) (hk : k < 3) : Sp.len3 (Sp.set3 T k Sp.noTb) ≤ Sp.len3 T := by
  have hk' : k = 0 ∨ k = 1 ∨ k = 2 := by omega
  rcases hk' with rfl | rfl | rfl <;> simp [Sp.sum3, Sp.set3, Sp.noTb] <;> omega
theorem KInv.clear {n : Nat} {S S' : QS} {P : RS} (hv : PInv n S P) (h : KInv S P S') {b : Bool} (hF : FreeV S' b) (hb : b = true) : KInv S P { S' with T := Sp.set3 S'.T (Sp.nxt S'.cur) Sp.noTb } := by
  refine ⟨h.cs, h.ts, h.lst, h.s, h.cur, Nat.le_trans (len3_clear _ _ (nxt_lt _)) h.len, fun e he hw => P3_stay _ _ (nxt_lt _) (h.keep e he hw) fun hin => ?_⟩
  obtain ⟨ys, sn, hp, hr, hsn, hbb⟩ := hF
  rw [h.cs] at hp
  obtain rfl := LikeY.uniq hv.cu hp hr
  have hall : Bt.needsB (stE S'.s) sn e = false := by
    have h1 : Bt.freeB (stE S'.s) sn (Sp.get3 S'.T (Sp.nxt S'.cur)).xs = true := by rw [← hbb]; exact hb
    simp only [Bt.freeB, Bool.not_eq_true', List.any_eq_false] at h1
    simpa using h1 e hin
  have hyes : Bt.needsB (stE S'.s) sn e = true := by
    unfold Bt.needsB
    rw [h.s, hv.al.cons]
    rcases hw with hw | ⟨hw, y, hy, hs⟩
    · rw [if_pos hw]
    · rw [if_neg (by omega), if_pos hw]
      have hk := hv.tk.fd (isK y.last)
      simp only [tkK, Prod.mk.injEq] at hk
      have hm : ((Tk.fdT (Tk.tkIs y.last) P.us).mx, (Tk.fdT (Tk.tkIs y.last) P.us).op) ∈ sn.map snk := by
        rw [hsn, h.ts]
        refine List.mem_append_left _ (List.mem_map.2 ⟨y, hy, ?_⟩)
        simp only [tkk, hk.2.1, hk.2.2.1]
      obtain ⟨z, hz, hzk⟩ := List.mem_map.1 hm
      simp only [snk, Prod.mk.injEq] at hzk
      refine List.any_eq_true.2 ⟨z, hz, ?_⟩
      simp only [Bt.SnM.sees, hzk.1, hzk.2, hs, Bool.not_false]
  rw [hall] at hyes; cases hyes
set_option maxHeartbeats 16000000 in
theorem l15_QueueKeeps (A0 : Option Addr) (c0 : Nat) (l : List Act15) (nn : Int) (w0 : World) (hr : RdW w0 A0 (l.flatMap encA)) (hok : ∀ z ∈ l, okA w0 z) (hnn : 0 ≤ nn ∧ nn ≤ 255) :
    Calls Tryz.prog 8 #[.slice A0 l.length c0, .int .u8 nn] w0 fun e w' => e = .returned (.bool true) ∧ BelowD w0.heap.size w0 w' := by
  refine enterP (tab := tab) Tryz.func8 rfl Tryz.ntmps8 rfl (args := [_, _]) rfl ?_
  refine VC_sound tabOk 100 ?_
  refine Go_ops rfl (OpTo_pcall (v := .bool true) rfl rfl rfl rfl rfl (by kernel_rfl) (fun w hm _ => l15_early w) ?_)
  refine VC_sound tabOk 100 ?_
  refine ⟨fun h => by first | (simp at h; done) | (simp at h; omega) | (simp_all; done), fun _ => ?_⟩
  refine ⟨fun hc => ?_, fun hc => ?_⟩
  · refine Go_ops rfl (OpTo_pcall (v := .bool true) rfl rfl rfl rfl rfl (by kernel_rfl) (fun w hm _ => l15_early w) ?_)
    refine VC_sound tabOk 100 ?_
    rfl
  have hl80 : l.length ≤ 80 := by have := of_decide_eq_false hc; omega
  show Go _ _ _ _
  refine Go_ops rfl (OpTo_ncall rfl rfl rfl rfl rfl (by kernel_rfl) (fun w hm _ => start15 w) ?_)
  rintro _ _ ⟨bx, I, J, rfl, rfl⟩
  refine VC_sound tabOk 100 ?_
  refine Go_loop (σ := Nat × QS × RS) (fun s => [(0, .v (.slice A0 l.length c0)), (5, .v (pv bx)), (6, .v (.int .i64 s.1)), (1, .v (.int .u8 nn))]) (fun s => allR bx I J s.2.1 s.2.2) (fun s => s.1 ≤ l.length ∧ PInv s.1 s.2.1 s.2.2) (fun s => l.length - s.1) (0, QS0 ⟨1, [], []⟩, PS0) ⟨Nat.zero_le _, PInv.start⟩ ⟨rfl, rfl, rfl, rfl, trivial⟩ (fun _ h => h) ?_
  rintro ⟨i, S, P⟩ ⟨hi, hv⟩
  dsimp only at hi hv ⊢
  by_cases hlt : i < l.length
  · obtain ⟨ba, oa, rfl⟩ := RdW.some encA_is hr (ne_nil_of_lt hlt)
    obtain ⟨a, hga⟩ : ∃ a, l[i]? = some a := ⟨_, List.getElem?_eq_getElem hlt⟩
    have ho := hok a (List.mem_of_getElem? hga)
    refine VC_sound tabOk 100 ?_
    refine ⟨fun _ => ?_, fun h => by first | (simp at h; done) | (simp at h; omega) | (simp_all; done)⟩
    refine ⟨⟨by omega, by omega⟩, ?_⟩
    (repeat (first | refine Or.inl ⟨rfl, rfl, ?_⟩ | refine Or.inl ⟨rfl, ?_⟩ | refine Or.inr ?_))
    refine findR_E ?_
    refine Go_ops rfl (OpTo_loadRow tabOk encA_is (mkA a) rfl rfl rfl rfl rfl (fun h => by first | rfl | cases h) (fun w hm _ => hr.mod hm) hga (by simp only [addA]; rfl) ?_)
    refine VC_sound tabOk 100 ?_
    refine Go_ops rfl (OpTo_tcall [] (allR bx I J S P) rfl rfl rfl rfl rfl rfl (by kernel_rfl) (fun w hb hm hio hsp k => do_step bx I J i (by omega) S P hv a ⟨bounds_u8 ho.1, bounds_u8 ho.2.1, bounds_u8 ho.2.2.1⟩ w _ k) ?_)
    rintro _ _ ⟨S', P', hv', rfl, rfl⟩
    refine VC_sound tabOk 100 ?_
    refine ⟨fun h => by first | (simp at h; done) | (simp at h; omega) | (simp_all; done), fun _ => ?_⟩
    refine ⟨_, wrap_i64 (n := (i : Int) + 1) (by omega) (by omega), ?_⟩
    exact Go_fin (i + 1, S', P') ⟨by dsimp only; omega, hv'⟩ (by dsimp only; omega) ⟨rfl, rfl, rfl, rfl, trivial⟩ (fun _ h => h)
  have hil : i = l.length := by omega
  have hrl := hv.rl
  have htl := hv.tl
  have hlen := hv.tb.len
  have hlk := hv.tk.len
  have hyl := hv.cu.len
  have hcl := hv.cu.clen
  have hc3 := hv.cur3
  have hfu : Tk.Fit1 P.us := hv.tk.fit hv.fit
  obtain ⟨N5, hN5, hN55⟩ := tmod_nat15 5 (by decide) hnn.1
  refine VC_sound tabOk 100 ?_
  refine ⟨fun h => by first | (simp at h; done) | (simp at h; omega) | (simp_all; done), fun _ => ?_⟩
  (repeat (first | refine Or.inl ⟨rfl, rfl, ?_⟩ | refine Or.inl ⟨rfl, ?_⟩ | refine Or.inr ?_))
  refine Go_ops rfl (OpTo_pcall (v := pv I.bs) rfl rfl rfl rfl rfl (by kernel_rfl) (fun w hm _ => q_spools I (S).nx w (hm.blk_at (i := 11) rfl)) ?_)
  refine VC_sound tabOk 100 ?_
  show Go _ _ _ _
  refine Go_ops rfl (OpTo_ncall rfl rfl rfl rfl rfl (by kernel_rfl) (fun w hm _ => qs_all I S (by first | omega | (have := hK.len; omega)) w _ (Mod.drop (a := runB bx I J :: rqR J P) hm)) ?_)
  rintro _ _ ⟨zs, hzs, A6, c6, rfl, rfl⟩
  have hzl : zs.length ≤ 10000 := by rw [hzs.2.2, Sp.pre3_len]; omega
  refine VC_sound tabOk 100 ?_
  refine Go_loop (σ := Nat × QS) (fun s => [(1, .v (.int .u8 nn)), (5, .v (pv bx)), (7, .v (.slice A6 zs.length c6)), (8, .v (.int .i64 s.1))]) (fun s => own encE 8 65 A6 c6 zs :: runB bx I J :: (rqR J P ++ qR I s.2)) (fun s => s.1 ≤ 5 ∧ KInv S P s.2) (fun s => 5 - s.1) (0, S) ⟨Nat.zero_le _, rfl, rfl, rfl, rfl, hc3.1, Nat.le_refl _, fun e he _ => he⟩ ⟨rfl, rfl, rfl, rfl, trivial⟩ (fun _ h => h) ?_
  rintro ⟨k, S'⟩ ⟨hk, hK⟩
  dsimp only at hk hK ⊢
  have hcs' := hK.cs
  have hts' := hK.ts
  refine VC_sound tabOk 100 ?_
  refine ⟨by decide, _, hN5.symm, ?_⟩
  refine ⟨_, wrap_i64 (n := (N5 : Int)) (by omega) (by omega), ?_⟩
  refine ⟨fun g => ?_, fun g => ?_⟩
  · have hk5 : k < 5 := by have := of_decide_eq_true g; omega
    (repeat (first | refine Or.inl ⟨rfl, rfl, ?_⟩ | refine Or.inl ⟨rfl, ?_⟩ | refine Or.inr ?_))
    refine Go_ops rfl (OpTo_tcall ([own encE 8 65 A6 c6 zs, runB bx I J] ++ rqR J P) (qR I S') rfl rfl rfl rfl rfl rfl (by kernel_rfl) (fun w hb hm hio hsp k => q_rotate I S' (by rw [hcs']; omega) (by rw [hts']; exact hv.fit) (by rw [hts']; omega) hK.cur (by have := hK.len; omega) w _ k) ?_)
    rintro _ _ ⟨b, hF, (⟨h0, rfl, rfl⟩ | ⟨h0, h1, rfl, rfl⟩ | ⟨h0, h1, rfl, rfl⟩)⟩
    · refine VC_sound tabOk 100 ?_
      refine ⟨_, wrap_i64 (n := (k : Int) + 1) (by omega) (by omega), ?_⟩
      exact Go_fin (k + 1, { S' with cur := Sp.nxt S'.cur }) ⟨by dsimp only; omega, ⟨hK.cs, hK.ts, hK.lst, hK.s, nxt_lt _, hK.len, hK.keep⟩⟩ (by dsimp only; omega) ⟨rfl, rfl, rfl, rfl, trivial⟩ (fun _ h => h)
    · refine VC_sound tabOk 100 ?_
      refine ⟨_, wrap_i64 (n := (k : Int) + 1) (by omega) (by omega), ?_⟩
      exact Go_fin (k + 1, S') ⟨by dsimp only; omega, hK⟩ (by dsimp only; omega) ⟨rfl, rfl, rfl, rfl, trivial⟩ (fun _ h => h)
    · refine VC_sound tabOk 100 ?_
      refine ⟨_, wrap_i64 (n := (k : Int) + 1) (by omega) (by omega), ?_⟩
      exact Go_fin (k + 1, { S' with T := Sp.set3 S'.T (Sp.nxt S'.cur) Sp.noTb }) ⟨by dsimp only; omega, KInv.clear hv hK hF h1⟩ (by dsimp only; omega) ⟨rfl, rfl, rfl, rfl, trivial⟩ (fun _ h => h)
  clear hk
  (repeat (first | refine Or.inl ⟨rfl, rfl, ?_⟩ | refine Or.inl ⟨rfl, ?_⟩ | refine Or.inr ?_))
  refine Go_ops rfl (OpTo_pcall (v := pv I.bs) rfl rfl rfl rfl rfl (by kernel_rfl) (fun w hm _ => q_spools I (S').nx w (hm.blk_at (i := 12) rfl)) ?_)
  refine VC_sound tabOk 100 ?_
  show Go _ _ _ _
  refine Go_ops rfl (OpTo_ncall rfl rfl rfl rfl rfl (by kernel_rfl) (fun w hm _ => qs_all I S' (by first | omega | (have := hK.len; omega)) w _ (Mod.drop (a := own encE 8 65 A6 c6 zs :: runB bx I J :: rqR J P) hm)) ?_)
  rintro _ _ ⟨zs2, hzs2, A7, c7, rfl, rfl⟩
  have hzl2 : zs2.length ≤ 10000 := by have := hK.len; rw [hzs2.2.2, Sp.pre3_len]; omega
  have hstay : ∀ e ∈ zs, WantE P e → zs2.any (fun d => evEq d e) = true := fun e he hw => by
    have h1 := hK.keep e ((hzs.1.mem e).2 he) hw
    exact List.any_eq_true.2 ⟨e, (hzs2.1.mem e).1 h1, evEq_self e⟩
  obtain ⟨T, cur, A, c, us, last, yA, yc, ys, xA, xc, xs, nx, RA, Rc, R⟩ := P
  dsimp only at hrl hlk hyl hcl hfu
  refine Go_res (own encE 8 65 A7 c7 zs2 :: own encE 8 65 A6 c6 zs :: runB bx I J :: (rqR J ⟨T, cur, A, c, us, last, yA, yc, ys, xA, xc, xs, nx, RA, Rc, R⟩ ++ qR I S')) (fun _ h => h) ?_
  refine VC_sound tabOk 100 ?_
  refine Go_loop (σ := Nat) (fun i => [(5, .v (pv bx)), (7, .v (.slice A6 zs.length c6)), (9, .v (.slice A7 zs2.length c7)), (10, .v (.int .i64 i))]) (fun _ => own encE 8 65 A7 c7 zs2 :: own encE 8 65 A6 c6 zs :: runB bx I J :: (rqR J ⟨T, cur, A, c, us, last, yA, yc, ys, xA, xc, xs, nx, RA, Rc, R⟩ ++ qR I S')) (fun i => i ≤ zs.length) (fun i => zs.length - i) 0 (Nat.zero_le _) ⟨rfl, rfl, rfl, rfl, trivial⟩ (fun _ h => h) ?_
  intro j hj
  by_cases hlt9 : j < zs.length
  · obtain ⟨e, hge⟩ : ∃ e, zs[j]? = some e := ⟨_, List.getElem?_eq_getElem hlt9⟩
    have hst := hstay e (List.mem_of_getElem? hge)
    refine Go_with _ (fun w hm _ => hm.own_some (i := 1) rfl (ne_nil_of_lt hlt9)) ?_
    rintro ⟨bz, oz, rfl⟩
    refine VC_sound tabOk 100 ?_
    refine ⟨fun _ => ?_, fun h => by first | (simp at h; done) | (simp at h; omega) | (simp_all; done)⟩
    refine Go_loop (σ := Nat) (fun k => [(5, .v (pv bx)), (7, .v (.slice (some ⟨bz, oz, none⟩) zs.length c6)), (9, .v (.slice A7 zs2.length c7)), (10, .v (.int .i64 j)), (11, .v (.bool ((zs2.take k).any fun d => evEq d e))), (12, .v (.int .i64 k))]) (fun _ => own encE 8 65 A7 c7 zs2 :: own encE 8 65 (some ⟨bz, oz, none⟩) c6 zs :: runB bx I J :: (rqR J ⟨T, cur, A, c, us, last, yA, yc, ys, xA, xc, xs, nx, RA, Rc, R⟩ ++ qR I S')) (fun k => k ≤ zs2.length) (fun k => zs2.length - k) 0 (Nat.zero_le _) ⟨rfl, rfl, rfl, rfl, rfl, rfl, trivial⟩ (fun _ h => h) ?_
    intro m hm9
    by_cases hlt2 : m < zs2.length
    · obtain ⟨d, hgd⟩ : ∃ d, zs2[m]? = some d := ⟨_, List.getElem?_eq_getElem hlt2⟩
      have hstp : ((zs2.take (m + 1)).any fun d => evEq d e) = (((zs2.take m).any fun d => evEq d e) || evEq d e) := by rw [List.take_add_one, hgd, List.any_append]; simp
      refine Go_with _ (fun w hm _ => hm.own_some (i := 0) rfl (ne_nil_of_lt hlt2)) ?_
      rintro ⟨bd, od, rfl⟩
      obtain ⟨bb, hbb⟩ : ∃ bb, bb = (zs2.take m).any fun d => evEq d e := ⟨_, rfl⟩
      rw [← hbb] at hstp ⊢
      cases bb with
      | true =>
        refine VC_sound tabOk 100 ?_
        refine ⟨fun _ => ?_, fun h => by first | (simp at h; done) | (simp at h; omega) | (simp_all; done)⟩
        show Go _ _ _ _
        refine Go_any mixed [] [(0, false), (1, false), (2, false), (3, false), (4, false), (6, false), (7, false), (8, false), (5, false), (9, false), (10, false), (11, false), (12, false)] rfl (by kernel_rfl) (by kernel_rfl) [] (fun w => RdW w (some ⟨bd, od, none⟩) (zs2.flatMap encE) ∧ RdW w (some ⟨bz, oz, none⟩) (zs.flatMap encE)) (fun w w' hk h => ⟨h.1.old hk, h.2.old hk⟩) (fun w hm _ => ⟨Holds.of_idx [] hm, ⟨by exact Mod.own_rd (k := 8) (T := 65) (c := c7) (i := 0) hm rfl, by exact Mod.own_rd (k := 8) (T := 65) (c := c6) (i := 1) hm rfl⟩⟩) ?_
        refine VC_sound tabOk 100 ?_
        refine ⟨fun _ => ?_, fun h => by simp at h⟩
        refine ⟨_, wrap_i64 (n := (m : Int) + 1) (by omega) (by omega), ?_⟩
        exact Go_fin (m + 1) (by omega) (by omega) ⟨rfl, rfl, rfl, rfl, (by rw [hstp]; rfl), rfl, trivial⟩ (fun _ h => h)
      | false =>
        refine VC_sound tabOk 100 ?_
        refine ⟨fun _ => ?_, fun h => by first | (simp at h; done) | (simp at h; omega) | (simp_all; done)⟩
        show Go _ _ _ _
        refine Go_any mixed [] [(0, false), (1, false), (2, false), (3, false), (4, false), (6, false), (7, false), (8, false), (5, false), (9, false), (10, false), (11, false), (12, false)] rfl (by kernel_rfl) (by kernel_rfl) [] (fun w => RdW w (some ⟨bd, od, none⟩) (zs2.flatMap encE) ∧ RdW w (some ⟨bz, oz, none⟩) (zs.flatMap encE)) (fun w w' hk h => ⟨h.1.old hk, h.2.old hk⟩) (fun w hm _ => ⟨Holds.of_idx [] hm, ⟨by exact Mod.own_rd (k := 8) (T := 65) (c := c7) (i := 0) hm rfl, by exact Mod.own_rd (k := 8) (T := 65) (c := c6) (i := 1) hm rfl⟩⟩) ?_
        refine VC_sound tabOk 100 ?_
        refine ⟨fun h => by first | (simp at h; done) | (simp at h; omega) | (simp_all; done), fun _ => ?_⟩
        refine ⟨⟨by omega, by omega⟩, ?_⟩
        refine ⟨⟨by omega, by omega⟩, ?_⟩
        (repeat (first | refine Or.inl ⟨rfl, rfl, ?_⟩ | refine Or.inl ⟨rfl, ?_⟩ | refine Or.inr ?_))
        refine findR_E ?_
        refine Go_first (v := mkE d) rfl rfl rfl rfl (fun w _ hw => rxLoadRow tabOk rfl encE_is rfl (fun h => by first | rfl | cases h) hw.1 hgd (by simp only [addA]; rfl) rfl) ?_
        refine VC_sound tabOk 100 ?_
        (repeat (first | refine Or.inl ⟨rfl, rfl, ?_⟩ | refine Or.inl ⟨rfl, ?_⟩ | refine Or.inr ?_))
        refine findR_E ?_
        refine Go_first (v := mkE e) rfl rfl rfl rfl (fun w _ hw => rxLoadRow tabOk rfl encE_is rfl (fun h => by first | rfl | cases h) hw.2 hge (by simp only [addA]; rfl) rfl) ?_
        refine VC_sound tabOk 100 ?_
        refine Go_firstB (.bool (evEq d e)) rfl rfl rfl rfl rfl (fun w => ev_eql d e _ _ w) ?_
        refine VC_sound tabOk 100 ?_
        refine ⟨_, wrap_i64 (n := (m : Int) + 1) (by omega) (by omega), ?_⟩
        exact Go_fin (m + 1) (by omega) (by omega) ⟨rfl, rfl, rfl, rfl, (by rw [hstp]; rfl), rfl, trivial⟩ (fun _ h => h)
    rw [List.take_of_length_le (by omega : zs2.length ≤ m)]
    obtain ⟨still, hsti⟩ : ∃ b, b = zs2.any fun d => evEq d e := ⟨_, rfl⟩
    rw [← hsti] at hst ⊢
    refine VC_sound tabOk 100 ?_
    refine ⟨fun h => by first | (simp at h; done) | (simp at h; omega) | (simp_all; done), fun _ => ?_⟩
    show Go _ _ _ _
    refine Go_any mixed [] [(0, false), (1, false), (2, false), (4, false), (5, false), (6, false), (7, false), (3, false), (8, false), (9, true), (10, false), (11, false)] rfl (by kernel_rfl) (by kernel_rfl) [runB bx I J] (fun w => RdW w (some ⟨bz, oz, none⟩) (zs.flatMap encE)) (fun w w' hk h => h.old hk) (fun w hm _ => ⟨Holds.of_idx [2] hm, by exact Mod.own_rd (k := 8) (T := 65) (c := c6) (i := 1) hm rfl⟩) ?_
    refine VC_sound tabOk 100 ?_
    refine ⟨⟨by omega, by omega⟩, ?_⟩
    (repeat (first | refine Or.inl ⟨rfl, rfl, ?_⟩ | refine Or.inl ⟨rfl, ?_⟩ | refine Or.inr ?_))
    (repeat (first | refine Or.inl ⟨rfl, rfl, ?_⟩ | refine Or.inl ⟨rfl, ?_⟩ | refine Or.inr ?_))
    refine findR_E ?_
    refine Go_first (v := .int .i64 e.tx) rfl rfl rfl rfl (fun w _ hw => rxLoadPart tabOk rfl encE_is hw hge (off := 1) rfl (by simp only [addA]; rfl)) ?_
    refine VC_sound tabOk 100 ?_
    refine Go_aloneL rfl rfl (OpTo_pcall (v := .int .u8 (rState R e.tx)) rfl rfl rfl rfl rfl (by kernel_rfl) (fun w hm _ => r06_state J.br RA Rc R e.tx w (hm.blk_at (i := 11) rfl) (hm.own_rd (i := 12) rfl) (by omega)) ?_)
    refine And.intro (fun w hm _ => ⟨Holds.of_idx [2] hm, by exact Mod.own_rd (k := 8) (T := 65) (c := c6) (i := 1) hm rfl⟩) ?_
    refine VC_sound tabOk 100 ?_
    refine Go_loop (σ := Nat × Bool) (fun u => [(5, .v (pv bx)), (7, .v (.slice (some ⟨bz, oz, none⟩) zs.length c6)), (9, .v (.slice A7 zs2.length c7)), (10, .v (.int .i64 j)), (11, .v (.bool still)), (13, .v (.bool u.2)), (14, .v (.int .i64 u.1))]) (fun _ => own encE 8 65 A7 c7 zs2 :: own encE 8 65 (some ⟨bz, oz, none⟩) c6 zs :: runB bx I J :: (rqR J ⟨T, cur, A, c, us, last, yA, yc, ys, xA, xc, xs, nx, RA, Rc, R⟩ ++ qR I S')) (fun u => u.1 ≤ ys.length ∧ (u.2 = true → WantE ⟨T, cur, A, c, us, last, yA, yc, ys, xA, xc, xs, nx, RA, Rc, R⟩ e)) (fun u => ys.length - u.1) (0, decide (rState R e.tx = 1)) ⟨Nat.zero_le _, fun h => .inl (of_decide_eq_true h)⟩ ⟨rfl, rfl, rfl, rfl, rfl, rfl, rfl, trivial⟩ (fun _ h => h) ?_
    rintro ⟨m, wn⟩ ⟨hm9, hw⟩
    dsimp only at hm9 hw ⊢
    by_cases hlt2 : m < ys.length
    · obtain ⟨y, hgy⟩ : ∃ y, ys[m]? = some y := ⟨_, List.getElem?_eq_getElem hlt2⟩
      refine Go_with _ (fun w hm _ => hm.own_some (i := 9) rfl (ne_nil_of_lt hlt2)) ?_
      rintro ⟨bY, oY, rfl⟩
      refine VC_sound tabOk 100 ?_
      (repeat (first | refine Or.inl ⟨rfl, rfl, ?_⟩ | refine Or.inl ⟨rfl, ?_⟩ | refine Or.inr ?_))
      refine ⟨fun _ => ?_, fun h => by first | (simp at h; done) | (simp at h; omega) | (simp_all; done)⟩
      refine Go_cut (σ := Nat) (fun u => [(5, .v (pv bx)), (7, .v (.slice (some ⟨bz, oz, none⟩) zs.length c6)), (9, .v (.slice A7 zs2.length c7)), (10, .v (.int .i64 j)), (11, .v (.bool still)), (13, .v (.bool wn)), (14, .v (.int .i64 m)), (15, .v (pv u))]) (fun u => .blk u 44 (Tk.encT (Tk.fdT (Tk.tkIs y.last) us)) :: own encE 8 65 A7 c7 zs2 :: own encE 8 65 (some ⟨bz, oz, none⟩) c6 zs :: runB bx I J :: (rqR J ⟨T, cur, A, c, us, last, some ⟨bY, oY, none⟩, yc, ys, xA, xc, xs, nx, RA, Rc, R⟩ ++ qR I S')) (fun _ => True) ?_ ?_
      · refine Go_any mixed [18, 23] [(0, false), (1, false), (2, false), (6, false), (7, false), (8, false), (14, false), (3, false), (4, false), (5, false), (9, false), (10, false), (11, false), (12, false), (13, false), (15, false), (16, false), (17, false), (99, false), (99, false), (99, false), (99, false), (99, false), (99, false), (99, false)] rfl (by kernel_rfl) (by kernel_rfl) [runB bx I J, rqB J ⟨T, cur, A, c, us, last, some ⟨bY, oY, none⟩, yc, ys, xA, xc, xs, nx, RA, Rc, R⟩] (fun w => RdW w (some ⟨bY, oY, none⟩) (ys.flatMap Cu.encC)) (fun w w' hk h => h.old hk) (fun w hm _ => ⟨Holds.of_idx [2, 3] hm, by exact Mod.own_rd (k := 3) (T := 101) (c := yc) (i := 9) hm rfl⟩) ?_
        refine VC_sound tabOk 100 ?_
        (repeat (first | refine Or.inl ⟨rfl, rfl, ?_⟩ | refine Or.inl ⟨rfl, ?_⟩ | refine Or.inr ?_))
        refine ⟨⟨by omega, by show (m : Int) < (ys.length : Int); omega⟩, ?_⟩
        (repeat (first | refine Or.inl ⟨rfl, rfl, ?_⟩ | refine Or.inl ⟨rfl, ?_⟩ | refine Or.inr ?_))
        refine findR_E ?_
        refine Go_first (v := .int .i64 y.last) rfl rfl rfl rfl (fun w _ hw => rxLoadPart tabOk rfl Cu.encC_is hw hgy (off := 1) rfl (by simp only [addA]; rfl)) ?_
        refine Go_forkA 18 22 [(19, false), (20, false), (21, false), (22, true), (23, true), (24, false)] [(18, true), (19, false), (20, false), (21, false), (23, true), (24, false)] (by kernel_rfl) rfl rfl (by kernel_rfl) (by kernel_rfl) rfl rfl rfl rfl rfl (fun R w hm _ => ⟨Holds.of_idx [3, 4] hm, by exact Mod.own_rd (k := 3) (T := 101) (c := yc) (i := 10) hm rfl⟩) ?_ ?_ tabOk
        · refine OpTo_pcall rfl rfl rfl rfl rfl (by kernel_rfl) (fun w hm _ => pt_get J ⟨T, cur, A, c, us, last, some ⟨bY, oY, none⟩, yc, ys, xA, xc, xs, nx, RA, Rc, R⟩ y.last (by show us.length ≤ 1000000; omega) w (hm.blk_at (i := 3) rfl) (hm.own_rd (i := 7) rfl)) ?_
          refine VC_sound tabOk 100 ?_
          intro b99 _
          (repeat (first | refine Or.inl ⟨rfl, rfl, ?_⟩ | refine Or.inl ⟨rfl, ?_⟩ | refine Or.inr ?_))
          exact Go_put b99 trivial ⟨rfl, rfl, rfl, rfl, rfl, rfl, rfl, rfl, trivial⟩ (fun _ h => h)
        · intro b99 _
          refine ⟨⟨_, rfl⟩, ?_⟩
          refine Go_aloneM rfl rfl rfl (OpTo_pcall rfl rfl rfl rfl rfl (by kernel_rfl) (fun w hm _ => pt_get J ⟨T, cur, A, c, us, last, some ⟨bY, oY, none⟩, yc, ys, xA, xc, xs, nx, RA, Rc, R⟩ y.last (by show us.length ≤ 1000000; omega) w (hm.blk_at (i := 4) rfl) (hm.own_rd (i := 8) rfl)) ?_)
          refine VC_sound tabOk 100 ?_
          (repeat (first | refine Or.inl ⟨rfl, rfl, ?_⟩ | refine Or.inl ⟨rfl, ?_⟩ | refine Or.inr ?_))
          exact Go_put b99 trivial ⟨rfl, rfl, rfl, rfl, rfl, rfl, rfl, rfl, trivial⟩ (fun _ h => h)
      intro b15 _
      cases wn with
      | true =>
        refine VC_sound tabOk 100 ?_
        show Go _ _ _ _
        refine Go_any mixed [] [(0, false), (1, false), (2, false), (3, false), (4, false), (6, false), (7, false), (8, false), (9, false), (5, false), (10, false), (11, true), (12, false), (13, false), (14, false), (16, false), (17, false), (18, false), (19, false), (15, false), (20, false), (21, true), (22, false), (23, false), (24, false), (25, false)] rfl (by kernel_rfl) (by kernel_rfl) [.blk b15 44 (Tk.encT (Tk.fdT (Tk.tkIs y.last) us)), runB bx I J] (fun w => RdW w (some ⟨bz, oz, none⟩) (zs.flatMap encE)) (fun w w' hk h => h.old hk) (fun w hm _ => ⟨Holds.of_idx [0, 3] hm, by exact Mod.own_rd (k := 8) (T := 65) (c := c6) (i := 2) hm rfl⟩) ?_
        refine VC_sound tabOk 100 ?_
        refine ⟨fun _ => ?_, fun h => by simp at h⟩
        refine ⟨_, wrap_i64 (n := (m : Int) + 1) (by omega) (by omega), ?_⟩
        exact Go_fin (m + 1, true) ⟨by dsimp only; omega, hw⟩ (by dsimp only; omega) ⟨rfl, rfl, rfl, rfl, rfl, rfl, rfl, trivial⟩ (fun _ h => h.dropAt 0)
      | false =>
        refine VC_sound tabOk 100 ?_
        show Go _ _ _ _
        refine Go_any mixed [] [(0, false), (1, false), (2, false), (3, false), (4, false), (6, false), (7, false), (8, false), (9, false), (5, false), (10, false), (11, true), (12, false), (13, false), (14, false), (16, false), (17, false), (18, false), (19, false), (15, false), (20, false), (21, true), (22, false), (23, false), (24, false), (25, false)] rfl (by kernel_rfl) (by kernel_rfl) [.blk b15 44 (Tk.encT (Tk.fdT (Tk.tkIs y.last) us)), runB bx I J] (fun w => RdW w (some ⟨bz, oz, none⟩) (zs.flatMap encE)) (fun w w' hk h => h.old hk) (fun w hm _ => ⟨Holds.of_idx [0, 3] hm, by exact Mod.own_rd (k := 8) (T := 65) (c := c6) (i := 2) hm rfl⟩) ?_
        refine VC_sound tabOk 100 ?_
        refine ⟨fun h => by first | (simp at h; done) | (simp at h; omega) | (simp_all; done), fun _ => ?_⟩
        refine ⟨⟨by omega, by omega⟩, ?_⟩
        (repeat (first | refine Or.inl ⟨rfl, rfl, ?_⟩ | refine Or.inl ⟨rfl, ?_⟩ | refine Or.inr ?_))
        (repeat (first | refine Or.inl ⟨rfl, rfl, ?_⟩ | refine Or.inl ⟨rfl, ?_⟩ | refine Or.inr ?_))
        refine findR_E ?_
        refine Go_first (v := .int .i64 e.tx) rfl rfl rfl rfl (fun w _ hw => rxLoadPart tabOk rfl encE_is hw hge (off := 1) rfl (by simp only [addA]; rfl)) ?_
        refine VC_sound tabOk 100 ?_
        refine Go_aloneL rfl rfl (OpTo_pcall (v := .int .u8 (rState R e.tx)) rfl rfl rfl rfl rfl (by kernel_rfl) (fun w hm _ => r06_state J.br RA Rc R e.tx w (hm.blk_at (i := 12) rfl) (hm.own_rd (i := 13) rfl) (by omega)) ?_)
        refine And.intro (fun w hm _ => ⟨Holds.of_idx [0, 3] hm, by exact Mod.own_rd (k := 8) (T := 65) (c := c6) (i := 2) hm rfl⟩) ?_
        refine VC_sound tabOk 100 ?_
        refine ⟨fun g => ?_, fun g => ?_⟩
        rotate_left
        · skip
          refine ⟨_, wrap_i64 (n := (m : Int) + 1) (by omega) (by omega), ?_⟩
          exact Go_fin (m + 1, false) ⟨by dsimp only; omega, fun h => nomatch h⟩ (by dsimp only; omega) ⟨rfl, rfl, rfl, rfl, rfl, rfl, rfl, trivial⟩ (fun _ h => h.dropAt 0)
        refine ⟨⟨by omega, by omega⟩, ?_⟩
        (repeat (first | refine Or.inl ⟨rfl, rfl, ?_⟩ | refine Or.inl ⟨rfl, ?_⟩ | refine Or.inr ?_))
        (repeat (first | refine Or.inl ⟨rfl, rfl, ?_⟩ | refine Or.inl ⟨rfl, ?_⟩ | refine Or.inr ?_))
        refine findR_E ?_
        refine Go_first (v := .int .i64 e.tx) rfl rfl rfl rfl (fun w _ hw => rxLoadPart tabOk rfl encE_is hw hge (off := 1) rfl (by simp only [addA]; rfl)) ?_
        refine VC_sound tabOk 100 ?_
        refine Go_aloneL rfl rfl (OpTo_pcall (v := .bool (snSees (Tk.fdT (Tk.tkIs y.last) us).mx (Tk.fdT (Tk.tkIs y.last) us).op e.tx)) rfl rfl rfl rfl rfl (by kernel_rfl) (fun w hm _ => r05_sees (Tk.fdT (Tk.tkIs y.last) us).mx (Tk.fdT (Tk.tkIs y.last) us).A (Tk.fdT (Tk.tkIs y.last) us).c (Tk.fdT (Tk.tkIs y.last) us).op e.tx w (bag_fd (i := 9) hm rfl _) (by have := hfu.fd (Tk.tkIs y.last); omega)) ?_)
        refine And.intro (fun w hm _ => ⟨Holds.of_idx [0, 3] hm, by exact Mod.own_rd (k := 8) (T := 65) (c := c6) (i := 2) hm rfl⟩) ?_
        refine VC_sound tabOk 100 ?_
        refine ⟨_, wrap_i64 (n := (m : Int) + 1) (by omega) (by omega), ?_⟩
        exact Go_fin (m + 1, (!snSees (Tk.fdT (Tk.tkIs y.last) us).mx (Tk.fdT (Tk.tkIs y.last) us).op e.tx)) ⟨by dsimp only; omega, fun h => .inr ⟨of_decide_eq_true g, y, List.mem_of_getElem? hgy, by simpa using h⟩⟩ (by dsimp only; omega) ⟨rfl, rfl, rfl, rfl, rfl, rfl, rfl, trivial⟩ (fun _ h => h.dropAt 0)
    refine VC_sound tabOk 100 ?_
    (repeat (first | refine Or.inl ⟨rfl, rfl, ?_⟩ | refine Or.inl ⟨rfl, ?_⟩ | refine Or.inr ?_))
    refine ⟨fun h => by first | (simp at h; done) | (simp at h; omega) | (simp_all; done), fun _ => ?_⟩
    cases wn with
    | false =>
      refine ⟨fun h => by first | (simp at h; done) | (simp at h; omega) | (simp_all; done), fun _ => ?_⟩
      refine ⟨_, wrap_i64 (n := (j : Int) + 1) (by omega) (by omega), ?_⟩
      exact Go_fin (j + 1) (by omega) (by omega) ⟨rfl, rfl, rfl, rfl, trivial⟩ (fun _ h => h)
    | true =>
      obtain rfl : still = true := hst (hw rfl)
      refine ⟨fun _ => ?_, fun h => by simp at h⟩
      refine ⟨fun h => by first | (simp at h; done) | (simp at h; omega) | (simp_all; done), fun _ => ?_⟩
      refine ⟨_, wrap_i64 (n := (j : Int) + 1) (by omega) (by omega), ?_⟩
      exact Go_fin (j + 1) (by omega) (by omega) ⟨rfl, rfl, rfl, rfl, trivial⟩ (fun _ h => h)
  refine VC_sound tabOk 100 ?_
  refine ⟨fun h => by first | (simp at h; done) | (simp at h; omega) | (simp_all; done), fun _ => ?_⟩
  rfl
end Go.Proofs.YthpcahgdobnljaaGreat
