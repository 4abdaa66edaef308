/- The law QueuePlays: what its run comes to. -/
import Derived.Test.YthpcahgdobnljaaGreatPs
set_option maxRecDepth 100000
set_option autoImplicit false
set_option linter.unusedVariables false
set_option linter.unusedSimpArgs false
namespace Go.Proofs.YthpcahgdobnljaaGreat
open Go.RX Go Go.RowKit Go.ChangeShapes Go.WideShapes Go.ChangeAt

def chkT (ops : Array Oper) (M : List Nat) : Array Bool → List (Nat × Bool) → Bool
  | _, [] => true
  | listed, (i, alone) :: r => match ops[i]? with
    | some o => (match alone with
        | true => Region.ready .any ops listed == [i]
        | false => (Region.ready .any ops listed).contains i && Region.free .any ops listed i && !M.contains i && (eager o.op || (isLoad o.op && aheadB ops M i && unlB M listed))) && chkT ops M (listed.setIfInBounds i true) r
    | none => true
def markL (L : Array Bool) (p : List (Nat × Bool)) : Array Bool := p.foldl (fun a x => a.setIfInBounds x.1 true) L
/-- The order of a great region is looked at in parts. -/
theorem chk_part {ops : Array Oper} {M : List Nat} {L2 : Array Bool} {p2 : List (Nat × Bool)} : ∀ {p1 : List (Nat × Bool)} {L : Array Bool}, chkT ops M L p1 = true → markL L p1 = L2 → chk ops M L2 p2 = true → chk ops M L (p1 ++ p2) = true
  | [], L, _, hL, h2 => by rw [show L = L2 from hL]; exact h2
  | (i, alone) :: r, L, h1, hL, h2 => by
    unfold chkT at h1
    rw [List.cons_append]
    unfold chk
    cases ho : ops[i]? with
    | none => rfl
    | some o =>
      rw [ho] at h1
      have h1 : (_ && chkT ops M (L.setIfInBounds i true) r) = true := h1
      show (_ && chk ops M (L.setIfInBounds i true) (r ++ p2)) = true
      rw [Bool.and_eq_true] at h1 ⊢
      exact ⟨h1.1, chk_part h1.2 hL h2⟩
def cvEq15 (a b : Cu.CurV) : Bool := a.name.toList == b.name.toList && (a.last == b.last && (a.opn == b.opn && true))
theorem cv_neq16 (a b : Cu.CurV) (x y : Operand) (w : World) : (binRun .neq 101 x y (Cu.mkC a) (Cu.mkC b)).run Tryz.prog w = .ok (.bool (!cvEq15 a b)) w :=
  (run_eq_struct (r := cvEq15 a b) tabOk (ts := [101]) (fun t ht => by simp at ht; subst ht; kernel_rfl) (by kernel_rfl) rfl x y w).2
theorem cv_neq15 (a : Cu.CurV) (x y : Operand) (w : World) : (binRun .neq 101 x y (Cu.mkC a) (Cu.mkC a)).run Tryz.prog w = .ok (.bool false) w := by
  rw [cv_neq16, show cvEq15 a a = true by simp [cvEq15]]; rfl
set_option maxHeartbeats 16000000 in
theorem like15 (bx : Nat) (I : QI) (J : RI) (n : Nat) (hn : n ≤ 200) (S : QS) (P : RS) (hv : PInv n S P) (w0 : World) (hfs : List PH) (hm : Mod hfs (allR bx I J S P) w0) :
    Calls Tryz.prog 18 #[pv bx] w0 fun e w' => ∃ v Rs', e = .returned v ∧ (v = .bool true ∧ Rs' = allR bx I J S P) ∧ Mod hfs Rs' w' ∧ Oth w0 w' := by
  have hrl := hv.rl
  have hlst := hv.lst
  have htl := hv.tl
  have hlen := hv.tb.len
  have hxl := hv.xl
  have hlk := hv.tk.len
  have hyl := hv.cu.len
  have hcl := hv.cu.clen
  have hc3 := hv.cur3
  have hfu : Tk.Fit1 P.us := hv.tk.fit hv.fit
  have hlp : Sp.len3 P.T = Sp.len3 S.T := (Sp.len3_eq hv.tb.same).symm
  have hfr := pr_free J P (by omega) hfu (by omega) hc3.2 (by omega) (by omega)
  have hqf : ∀ b, FreeV S b → Bt.freeB (rState P.R) (wantP P.us P.ys) (Sp.get3 P.T (Sp.nxt P.cur)).xs = b := fun b hF => hv.free hF
  have hpa := ps_all J P (by omega)
  have hpre := Sp.pre3_eq hv.tb.same
  obtain ⟨T, cur, A, c, us, last, yA, yc, ys, xA, xc, xs, nx, RA, Rc, R⟩ := P
  obtain rfl : cur = S.cur := hv.cur
  obtain rfl : xs = S.xs := hv.xs
  obtain rfl : last = S.last := hv.lst.1
  obtain rfl : nx = S.nx := hv.nx.1
  dsimp only at hrl hlk hyl hcl hlp hqf hpre
  have hcu := hv.cu
  dsimp only at hcu
  refine enterN (tab := tab) Tryz.func18 rfl Tryz.ntmps18 rfl (args := [_]) rfl hm ?_
  refine VC_sound tabOk 100 ?_
  (repeat (first | refine Or.inl ⟨rfl, rfl, ?_⟩ | refine Or.inl ⟨rfl, ?_⟩ | refine Or.inr ?_))
  refine Go_ops rfl (OpTo_pcall (v := pv I.bc) rfl rfl rfl rfl rfl (by kernel_rfl) (fun w hm _ => q_cursors I S.nx w (hm.blk_at (i := 11) rfl)) ?_)
  refine VC_sound tabOk 100 ?_
  refine Go_ops rfl (OpTo_tcall ([runB bx I J] ++ rqR J ⟨T, S.cur, A, c, us, S.last, yA, yc, ys, xA, xc, S.xs, S.nx, RA, Rc, R⟩) (qR I S) rfl rfl rfl rfl rfl rfl (by kernel_rfl) (fun w hb hm hio hsp k => qs_cuAll I S (by omega) w _ k) ?_)
  rintro _ _ ⟨Ac, cc, ys2, rfl, hp2, hr2, rfl⟩
  obtain rfl : ys2 = ys := LikeY.uniq hcu hp2 hr2
  refine Go_res (own Cu.encC 3 50 Ac cc ys2 :: runB bx I J :: (rqR J ⟨T, S.cur, A, c, us, S.last, yA, yc, ys2, xA, xc, S.xs, S.nx, RA, Rc, R⟩ ++ qR I S)) (fun _ h => h.permRs (List.perm_middle (l₁ := runB bx I J :: rqR J ⟨T, S.cur, A, c, us, S.last, yA, yc, ys2, xA, xc, S.xs, S.nx, RA, Rc, R⟩))) ?_
  refine VC_sound tabOk 100 ?_
  show Go _ _ _ _
  refine Go_any mixed [] [(0, false), (1, false), (2, false), (3, false), (4, false), (5, false), (6, false), (7, false), (8, false), (9, false), (10, false), (11, false), (12, false), (13, false), (14, false), (15, false), (20, false), (21, false), (22, false), (16, false), (23, false), (24, false), (25, false), (26, false), (27, false), (28, false), (17, true), (18, true), (19, false), (29, false), (30, false)] rfl (by kernel_rfl) (by kernel_rfl) [runB bx I J, rqB J ⟨T, S.cur, A, c, us, S.last, yA, yc, ys2, xA, xc, S.xs, S.nx, RA, Rc, R⟩] (fun _ => True) (fun _ _ _ h => h) (fun w hm _ => ⟨Holds.of_idx [1, 2] hm, trivial⟩) ?_
  refine VC_sound tabOk 100 ?_
  (repeat (first | refine Or.inl ⟨rfl, rfl, ?_⟩ | refine Or.inl ⟨rfl, ?_⟩ | refine Or.inr ?_))
  refine ⟨fun h => by first | (simp at h; done) | (simp at h; omega) | (simp_all; done), fun _ => ?_⟩
  (repeat (first | refine Or.inl ⟨rfl, rfl, ?_⟩ | refine Or.inl ⟨rfl, ?_⟩ | refine Or.inr ?_))
  refine Go_aloneL rfl rfl (OpTo_pcall (v := pv I.br) rfl rfl rfl rfl rfl (by kernel_rfl) (fun w hm _ => q_retries I S.nx w (hm.blk_at (i := 12) rfl)) ?_)
  refine And.intro (fun w hm _ => ⟨Holds.of_idx [1, 2] hm, trivial⟩) ?_
  refine VC_sound tabOk 100 ?_
  refine Go_aloneL rfl rfl (OpTo_ncall rfl rfl rfl rfl rfl (by kernel_rfl) (fun w hm _ => Rt.retry_all I.br S.rA S.rc S.xs w (hm.blk_at (i := 23) rfl) (hm.own_rd (i := 24) rfl) (by omega)) ?_)
  rintro _ _ ⟨A5, c5, rfl, rfl⟩
  refine And.intro (fun w hm _ => ⟨Holds.of_idx [2, 3] hm, trivial⟩) ?_
  refine VC_sound tabOk 100 ?_
  refine ⟨fun h => by first | (simp at h; done) | (simp at h; omega) | (simp_all; done), fun _ => ?_⟩
  refine Go_loop (σ := Nat) (fun k => [(0, .v (pv bx)), (3, .v (.slice Ac ys2.length cc)), (4, .v (.int .i64 k))]) (fun _ => own Cu.encC 3 50 Ac cc ys2 :: runB bx I J :: (rqR J ⟨T, S.cur, A, c, us, S.last, yA, yc, ys2, xA, xc, S.xs, S.nx, RA, Rc, R⟩ ++ qR I S)) (fun k => k ≤ ys2.length) (fun k => ys2.length - k) 0 (Nat.zero_le _) ⟨rfl, rfl, rfl, trivial⟩ (fun _ h => h.dropAt 0) ?_
  intro k hk
  by_cases hlt : k < ys2.length
  · obtain ⟨y, hgy⟩ : ∃ y, ys2[k]? = some y := ⟨_, List.getElem?_eq_getElem hlt⟩
    refine Go_with _ (fun w hm _ => hm.own_some (i := 0) rfl (ne_nil_of_lt hlt)) ?_
    rintro ⟨bY, oY, rfl⟩
    refine Go_with _ (fun w hm _ => hm.own_some (i := 8) rfl (ne_nil_of_lt hlt)) ?_
    rintro ⟨bP, oP, rfl⟩
    as_aux_lemma =>
      refine VC_sound tabOk 100 ?_
      refine ⟨fun _ => ?_, fun h => by first | (simp at h; done) | (simp at h; omega) | (simp_all; done)⟩
      show Go _ _ _ _
      refine Go_any mixed [] [(0, false), (1, false), (2, false), (3, false), (5, false), (6, false), (7, false), (8, false), (10, false), (11, false), (12, false), (13, false), (16, false), (17, false), (18, false), (24, false), (4, false), (9, false), (14, false), (15, false), (19, false), (20, false), (21, false), (22, false), (23, false), (25, false), (26, false), (27, false)] rfl (by kernel_rfl) (by kernel_rfl) [runB bx I J, rqB J ⟨T, S.cur, A, c, us, S.last, some ⟨bP, oP, none⟩, yc, ys2, xA, xc, S.xs, S.nx, RA, Rc, R⟩] (fun w => RdW w (some ⟨bY, oY, none⟩) (ys2.flatMap Cu.encC) ∧ RdW w (some ⟨bP, oP, none⟩) (ys2.flatMap Cu.encC)) (fun w w' hk h => ⟨h.1.old hk, h.2.old hk⟩) (fun w hm _ => ⟨Holds.of_idx [1, 2] hm, ⟨by exact Mod.own_rd (k := 3) (T := 50) (c := cc) (i := 0) hm rfl, by exact Mod.own_rd (k := 3) (T := 101) (c := yc) (i := 8) hm rfl⟩⟩) ?_
      refine VC_sound tabOk 100 ?_
      refine ⟨⟨by omega, by show (k : Int) < (ys2.length : Int); omega⟩, ?_⟩
      refine ⟨⟨by omega, by show (k : Int) < (ys2.length : Int); omega⟩, ?_⟩
      refine ⟨⟨by omega, by show (k : Int) < (ys2.length : Int); omega⟩, ?_⟩
      (repeat (first | refine Or.inl ⟨rfl, rfl, ?_⟩ | refine Or.inl ⟨rfl, ?_⟩ | refine Or.inr ?_))
      refine findR_E ?_
      refine Go_first (v := .string y.name) rfl rfl rfl rfl (fun w _ hw => rxLoadPart tabOk rfl Cu.encC_is hw.1 hgy (off := 0) rfl (by simp only [addA]; rfl)) ?_
      refine VC_sound tabOk 100 ?_
      (repeat (first | refine Or.inl ⟨rfl, rfl, ?_⟩ | refine Or.inl ⟨rfl, ?_⟩ | refine Or.inr ?_))
      refine findR_E ?_
      refine Go_first (v := .int .i64 y.last) rfl rfl rfl rfl (fun w _ hw => rxLoadPart tabOk rfl Cu.encC_is hw.1 hgy (off := 1) rfl (by simp only [addA]; rfl)) ?_
      refine VC_sound tabOk 100 ?_
      (repeat (first | refine Or.inl ⟨rfl, rfl, ?_⟩ | refine Or.inl ⟨rfl, ?_⟩ | refine Or.inr ?_))
      refine findR_E ?_
      refine Go_first (v := .int .i64 y.opn) rfl rfl rfl rfl (fun w _ hw => rxLoadPart tabOk rfl Cu.encC_is hw.1 hgy (off := 2) rfl (by simp only [addA]; rfl)) ?_
      refine VC_sound tabOk 100 ?_
      (repeat (first | refine Or.inl ⟨rfl, rfl, ?_⟩ | refine Or.inl ⟨rfl, ?_⟩ | refine Or.inr ?_))
      refine ⟨⟨by omega, by show (k : Int) < (ys2.length : Int); omega⟩, ?_⟩
      (repeat (first | refine Or.inl ⟨rfl, rfl, ?_⟩ | refine Or.inl ⟨rfl, ?_⟩ | refine Or.inr ?_))
      refine findR_E ?_
      refine Go_first (v := Cu.mkC y) rfl rfl rfl rfl (fun w _ hw => rxLoadRow tabOk rfl Cu.encC_is rfl (fun h => by first | rfl | cases h) hw.2 hgy (by simp only [addA]; rfl) rfl) ?_
      refine VC_sound tabOk 100 ?_
      refine Go_firstB (.bool false) rfl rfl rfl rfl rfl (fun w => cv_neq15 y _ _ w) ?_
      refine VC_sound tabOk 100 ?_
      refine ⟨fun h => by first | (simp at h; done) | (simp at h; omega) | (simp_all; done), fun _ => ?_⟩
      refine ⟨_, wrap_i64 (n := (k : Int) + 1) (by omega) (by omega), ?_⟩
      exact Go_fin (k + 1) (by omega) (by omega) ⟨rfl, rfl, rfl, trivial⟩ (fun _ h => h)
  refine Go_res (runB bx I J :: (rqR J ⟨T, S.cur, A, c, us, S.last, yA, yc, ys2, xA, xc, S.xs, S.nx, RA, Rc, R⟩ ++ qR I S)) (fun _ h => h.dropAt 0) ?_
  as_aux_lemma =>
    refine VC_sound tabOk 100 ?_
    refine ⟨fun h => by first | (simp at h; done) | (simp at h; omega) | (simp_all; done), fun _ => ?_⟩
    show Go _ _ _ _
    refine Go_any mixed [] [(0, false), (1, false), (2, false), (5, false), (6, false), (7, false), (3, false), (8, false), (9, false), (10, false), (11, false), (4, true), (12, false), (13, false), (14, false), (15, false), (16, false), (19, false), (20, false), (21, false), (17, false), (22, false), (18, true), (23, true), (24, false), (25, false), (26, false), (27, false), (28, false), (29, false), (33, false), (34, false), (35, false), (30, false), (36, false), (37, false), (38, false), (31, true), (32, true), (39, true), (40, true), (41, false), (42, false), (43, false), (44, false), (45, false), (49, false), (50, false), (51, false), (46, false), (52, false), (53, false), (54, false), (55, false), (56, false), (47, true), (48, true), (57, false), (58, false), (59, false), (60, false), (61, false), (62, false), (66, false), (67, false), (68, false), (63, false), (69, false), (70, false), (71, false), (72, false), (73, false), (64, true), (65, true), (74, false), (75, false), (76, false), (77, false), (78, false), (79, false), (83, false), (84, false), (85, false), (80, false), (86, false), (87, false), (88, false), (89, false), (90, false), (91, false), (81, true), (82, true), (92, false), (93, false), (94, false)] rfl ?hchk (by kernel_rfl) [runB bx I J, rqB J ⟨T, S.cur, A, c, us, S.last, yA, yc, ys2, xA, xc, S.xs, S.nx, RA, Rc, R⟩] (fun _ => True) (fun _ _ _ h => h) (fun w hm _ => ⟨Holds.of_idx [0, 1] hm, trivial⟩) ?_
    case hchk =>
      show chk _ _ _ ([(0, false), (1, false), (2, false), (5, false), (6, false), (7, false), (3, false), (8, false), (9, false), (10, false)] ++ ([(11, false), (4, true), (12, false), (13, false), (14, false), (15, false), (16, false), (19, false), (20, false), (21, false)] ++ ([(17, false), (22, false), (18, true), (23, true), (24, false), (25, false), (26, false), (27, false), (28, false), (29, false)] ++ ([(33, false), (34, false), (35, false), (30, false), (36, false), (37, false), (38, false), (31, true), (32, true), (39, true)] ++ ([(40, true), (41, false), (42, false), (43, false), (44, false), (45, false), (49, false), (50, false), (51, false), (46, false)] ++ ([(52, false), (53, false), (54, false), (55, false), (56, false), (47, true), (48, true), (57, false), (58, false), (59, false)] ++ ([(60, false), (61, false), (62, false), (66, false), (67, false), (68, false), (63, false), (69, false), (70, false), (71, false)] ++ ([(72, false), (73, false), (64, true), (65, true), (74, false), (75, false), (76, false), (77, false), (78, false), (79, false)] ++ ([(83, false), (84, false), (85, false), (80, false), (86, false), (87, false), (88, false), (89, false), (90, false), (91, false)] ++ ([(81, true), (82, true), (92, false), (93, false), (94, false)])))))))))) = true
      refine chk_part (L2 := #[true, true, true, true, false, true, true, true, true, true, true, false, false, false, false, false, false, false, false, false, false, false, false, false, false, false, false, false, false, false, false, false, false, false, false, false, false, false, false, false, false, false, false, false, false, false, false, false, false, false, false, false, false, false, false, false, false, false, false, false, false, false, false, false, false, false, false, false, false, false, false, false, false, false, false, false, false, false, false, false, false, false, false, false, false, false, false, false, false, false, false, false, false, false, false]) (by as_aux_lemma => kernel_rfl) (by as_aux_lemma => kernel_rfl) ?_
      refine chk_part (L2 := #[true, true, true, true, true, true, true, true, true, true, true, true, true, true, true, true, true, false, false, true, true, true, false, false, false, false, false, false, false, false, false, false, false, false, false, false, false, false, false, false, false, false, false, false, false, false, false, false, false, false, false, false, false, false, false, false, false, false, false, false, false, false, false, false, false, false, false, false, false, false, false, false, false, false, false, false, false, false, false, false, false, false, false, false, false, false, false, false, false, false, false, false, false, false, false]) (by as_aux_lemma => kernel_rfl) (by as_aux_lemma => kernel_rfl) ?_
      refine chk_part (L2 := #[true, true, true, true, true, true, true, true, true, true, true, true, true, true, true, true, true, true, true, true, true, true, true, true, true, true, true, true, true, true, false, false, false, false, false, false, false, false, false, false, false, false, false, false, false, false, false, false, false, false, false, false, false, false, false, false, false, false, false, false, false, false, false, false, false, false, false, false, false, false, false, false, false, false, false, false, false, false, false, false, false, false, false, false, false, false, false, false, false, false, false, false, false, false, false]) (by as_aux_lemma => kernel_rfl) (by as_aux_lemma => kernel_rfl) ?_
      refine chk_part (L2 := #[true, true, true, true, true, true, true, true, true, true, true, true, true, true, true, true, true, true, true, true, true, true, true, true, true, true, true, true, true, true, true, true, true, true, true, true, true, true, true, true, false, false, false, false, false, false, false, false, false, false, false, false, false, false, false, false, false, false, false, false, false, false, false, false, false, false, false, false, false, false, false, false, false, false, false, false, false, false, false, false, false, false, false, false, false, false, false, false, false, false, false, false, false, false, false]) (by as_aux_lemma => kernel_rfl) (by as_aux_lemma => kernel_rfl) ?_
      refine chk_part (L2 := #[true, true, true, true, true, true, true, true, true, true, true, true, true, true, true, true, true, true, true, true, true, true, true, true, true, true, true, true, true, true, true, true, true, true, true, true, true, true, true, true, true, true, true, true, true, true, true, false, false, true, true, true, false, false, false, false, false, false, false, false, false, false, false, false, false, false, false, false, false, false, false, false, false, false, false, false, false, false, false, false, false, false, false, false, false, false, false, false, false, false, false, false, false, false, false]) (by as_aux_lemma => kernel_rfl) (by as_aux_lemma => kernel_rfl) ?_
      refine chk_part (L2 := #[true, true, true, true, true, true, true, true, true, true, true, true, true, true, true, true, true, true, true, true, true, true, true, true, true, true, true, true, true, true, true, true, true, true, true, true, true, true, true, true, true, true, true, true, true, true, true, true, true, true, true, true, true, true, true, true, true, true, true, true, false, false, false, false, false, false, false, false, false, false, false, false, false, false, false, false, false, false, false, false, false, false, false, false, false, false, false, false, false, false, false, false, false, false, false]) (by as_aux_lemma => kernel_rfl) (by as_aux_lemma => kernel_rfl) ?_
      refine chk_part (L2 := #[true, true, true, true, true, true, true, true, true, true, true, true, true, true, true, true, true, true, true, true, true, true, true, true, true, true, true, true, true, true, true, true, true, true, true, true, true, true, true, true, true, true, true, true, true, true, true, true, true, true, true, true, true, true, true, true, true, true, true, true, true, true, true, true, false, false, true, true, true, true, true, true, false, false, false, false, false, false, false, false, false, false, false, false, false, false, false, false, false, false, false, false, false, false, false]) (by as_aux_lemma => kernel_rfl) (by as_aux_lemma => kernel_rfl) ?_
      refine chk_part (L2 := #[true, true, true, true, true, true, true, true, true, true, true, true, true, true, true, true, true, true, true, true, true, true, true, true, true, true, true, true, true, true, true, true, true, true, true, true, true, true, true, true, true, true, true, true, true, true, true, true, true, true, true, true, true, true, true, true, true, true, true, true, true, true, true, true, true, true, true, true, true, true, true, true, true, true, true, true, true, true, true, true, false, false, false, false, false, false, false, false, false, false, false, false, false, false, false]) (by as_aux_lemma => kernel_rfl) (by as_aux_lemma => kernel_rfl) ?_
      refine chk_part (L2 := #[true, true, true, true, true, true, true, true, true, true, true, true, true, true, true, true, true, true, true, true, true, true, true, true, true, true, true, true, true, true, true, true, true, true, true, true, true, true, true, true, true, true, true, true, true, true, true, true, true, true, true, true, true, true, true, true, true, true, true, true, true, true, true, true, true, true, true, true, true, true, true, true, true, true, true, true, true, true, true, true, true, false, false, true, true, true, true, true, true, true, true, true, false, false, false]) (by as_aux_lemma => kernel_rfl) (by as_aux_lemma => kernel_rfl) ?_
      as_aux_lemma => kernel_rfl
    refine VC_sound tabOk 100 ?_
    (repeat (first | refine Or.inl ⟨rfl, rfl, ?_⟩ | refine Or.inl ⟨rfl, ?_⟩ | refine Or.inr ?_))
    refine Go_aloneL rfl rfl (OpTo_pcall (v := .int .i64 S.nx) rfl rfl rfl rfl rfl (by kernel_rfl) (fun w hm _ => qn_nextID I.q (some ⟨I.m, 0, none⟩) I.bs I.bt I.bc I.br S.nx w (hm.blk_at (i := 11) rfl)) ?_)
    refine And.intro (fun w hm _ => ⟨Holds.of_idx [0, 1] hm, trivial⟩) ?_
    refine VC_sound tabOk 100 ?_
    refine ⟨fun _ => ?_, fun h => by simp at h⟩
    (repeat (first | refine Or.inl ⟨rfl, rfl, ?_⟩ | refine Or.inl ⟨rfl, ?_⟩ | refine Or.inr ?_))
    refine Go_aloneL rfl rfl (OpTo_tcall ([runB bx I J] ++ rqR J ⟨T, S.cur, A, c, us, S.last, yA, yc, ys2, xA, xc, S.xs, S.nx, RA, Rc, R⟩) (qR I S) rfl rfl rfl rfl rfl rfl (by kernel_rfl) (fun w hb hm hio hsp k => q_free I S (by omega) hv.fit (by omega) hc3.1 (by omega) w _ k) ?_)
    rintro _ _ ⟨b, hF, rfl, rfl⟩
    refine And.intro (fun w hm _ => ⟨Holds.of_idx [0, 1] hm, trivial⟩) ?_
    rw [hqf b hF] at hfr
    as_aux_lemma =>
      refine VC_sound tabOk 100 ?_
      refine Go_aloneL rfl rfl (OpTo_xcall [runB bx I J] (qR I S) (rqR J ⟨T, S.cur, A, c, us, S.last, yA, yc, ys2, xA, xc, S.xs, S.nx, RA, Rc, R⟩) rfl rfl rfl rfl rfl rfl (by kernel_rfl) (fun w hb hm hio hsp k => hfr w _ k) ?_)
      rintro _ _ ⟨rfl, rfl⟩
      refine And.intro (fun w hm _ => ⟨Holds.of_idx [0, 1] hm, trivial⟩) ?_
      refine VC_sound tabOk 100 ?_
      refine ⟨fun _ => ?_, fun h => by simp at h⟩
      (repeat (first | refine Or.inl ⟨rfl, rfl, ?_⟩ | refine Or.inl ⟨rfl, ?_⟩ | refine Or.inr ?_))
      refine Go_aloneL rfl rfl (OpTo_pcall (v := pv I.bs) rfl rfl rfl rfl rfl (by kernel_rfl) (fun w hm _ => q_spools I S.nx w (hm.blk_at (i := 11) rfl)) ?_)
      refine And.intro (fun w hm _ => ⟨Holds.of_idx [0, 1] hm, trivial⟩) ?_
      refine VC_sound tabOk 100 ?_
      refine Go_aloneL rfl rfl (OpTo_ncall rfl rfl rfl rfl rfl (by kernel_rfl) (fun w hm _ => qs_all I S (by omega) w _ (Mod.drop (a := runB bx I J :: rqR J ⟨T, S.cur, A, c, us, S.last, yA, yc, ys2, xA, xc, S.xs, S.nx, RA, Rc, R⟩) hm)) ?_)
      rintro _ _ ⟨zs, hz, A6, c6, rfl, rfl⟩
      refine And.intro (fun w hm _ => ⟨Holds.of_idx [1, 2] hm, trivial⟩) ?_
      refine VC_sound tabOk 100 ?_
      refine Go_aloneL rfl rfl (OpTo_xcall [own encE 8 65 A6 c6 zs, runB bx I J] (qR I S) (rqR J ⟨T, S.cur, A, c, us, S.last, yA, yc, ys2, xA, xc, S.xs, S.nx, RA, Rc, R⟩) rfl rfl rfl rfl rfl rfl (by kernel_rfl) (fun w hb hm hio hsp k => hpa w _ k) ?_)
      rintro _ _ ⟨zs2, A7, c7, hz2, rfl, rfl⟩
      have hzz : zs2 = zs := by
        have h1 := hz2.1; rw [← hpre] at h1
        exact Rise.unique ordI hz2.2.1 hz.2.1 (h1.symm.trans hz.1)
      obtain rfl := hzz
      have hzl : zs2.length ≤ 10000 := by rw [hz.2.2, Sp.pre3_len]; omega
      refine And.intro (fun w hm _ => ⟨Holds.of_idx [1, 3] hm, trivial⟩) ?_
      refine VC_sound tabOk 100 ?_
      refine Go_aloneL rfl rfl (OpTo_pcall (v := .bool true) rfl rfl rfl rfl rfl (by kernel_rfl) (fun w hm _ => r09_same A6 A7 c6 c7 zs2 w (hm.own_rd (i := 0) rfl) (hm.own_rd (i := 2) rfl) (by omega)) ?_)
      refine And.intro (fun w hm _ => ⟨Holds.of_idx [1, 3] hm, trivial⟩) ?_
      refine VC_sound tabOk 100 ?_
      as_aux_lemma =>
        refine ⟨fun _ => ?_, fun h => by simp at h⟩
        (repeat (first | refine Or.inl ⟨rfl, rfl, ?_⟩ | refine Or.inl ⟨rfl, ?_⟩ | refine Or.inr ?_))
        refine Go_aloneL rfl rfl (OpTo_pcall (v := pv I.bs) rfl rfl rfl rfl rfl (by kernel_rfl) (fun w hm _ => q_spools I S.nx w (hm.blk_at (i := 13) rfl)) ?_)
        refine And.intro (fun w hm _ => ⟨Holds.of_idx [1, 3] hm, trivial⟩) ?_
        refine VC_sound tabOk 100 ?_
        refine Go_aloneL rfl rfl (OpTo_pcall (v := .int .i64 S.cur) rfl rfl rfl rfl rfl (by kernel_rfl) (fun w hm _ => Sp.spool_cur I.bs S.T.1 S.T.2.1 S.T.2.2 S.cur w (hm.blk_at (i := 17) rfl)) ?_)
        refine And.intro (fun w hm _ => ⟨Holds.of_idx [1, 3] hm, trivial⟩) ?_
        refine VC_sound tabOk 100 ?_
        refine ⟨fun _ => ?_, fun h => by simp at h⟩
        (repeat (first | refine Or.inl ⟨rfl, rfl, ?_⟩ | refine Or.inl ⟨rfl, ?_⟩ | refine Or.inr ?_))
        refine Go_aloneL rfl rfl (OpTo_pcall (v := pv I.bt) rfl rfl rfl rfl rfl (by kernel_rfl) (fun w hm _ => q_ticks I S.nx w (hm.blk_at (i := 13) rfl)) ?_)
        refine And.intro (fun w hm _ => ⟨Holds.of_idx [1, 3] hm, trivial⟩) ?_
        refine VC_sound tabOk 100 ?_
        refine Go_aloneL rfl rfl (OpTo_pcall (v := .int .i64 S.last) rfl rfl rfl rfl rfl (by kernel_rfl) (fun w hm _ => Tk.tick_last I.bt S.tA S.ts.length S.tc S.last w (hm.blk_at (i := 21) rfl)) ?_)
        refine And.intro (fun w hm _ => ⟨Holds.of_idx [1, 3] hm, trivial⟩) ?_
        refine VC_sound tabOk 100 ?_
        refine ⟨fun _ => ?_, fun h => by simp at h⟩
        (repeat (first | refine Or.inl ⟨rfl, rfl, ?_⟩ | refine Or.inl ⟨rfl, ?_⟩ | refine Or.inr ?_))
        refine Go_aloneL rfl rfl (OpTo_pcall (v := pv I.bt) rfl rfl rfl rfl rfl (by kernel_rfl) (fun w hm _ => q_ticks I S.nx w (hm.blk_at (i := 13) rfl)) ?_)
        refine And.intro (fun w hm _ => ⟨Holds.of_idx [1, 3] hm, trivial⟩) ?_
        refine VC_sound tabOk 100 ?_
        refine Go_aloneL rfl rfl (OpTo_pcall (v := .int .i64 S.ts.length) rfl rfl rfl rfl rfl (by kernel_rfl) (fun w hm _ => Tk.tick_len I.bt S.tA S.ts.length S.tc S.last w (hm.blk_at (i := 21) rfl)) ?_)
        refine And.intro (fun w hm _ => ⟨Holds.of_idx [1, 3] hm, trivial⟩) ?_
        refine VC_sound tabOk 100 ?_
        exact ⟨_, ⟨congrArg Value.bool (decide_eq_true (by rw [hlk])), rfl⟩, fun _ _ h => (h.dropAt 2).dropAt 0⟩
set_option maxHeartbeats 16000000 in
theorem l15_QueuePlays (A0 : Option Addr) (c0 : Nat) (l : List Act15) (w0 : World) (hr : RdW w0 A0 (l.flatMap encA)) (hok : ∀ z ∈ l, okA w0 z) :
    Calls Tryz.prog 4 #[.slice A0 l.length c0] w0 fun e w' => e = .returned (.bool true) ∧ BelowD w0.heap.size w0 w' := by
  refine enterP (tab := tab) Tryz.func4 rfl Tryz.ntmps4 rfl (args := [_]) rfl ?_
  refine VC_sound tabOk 100 ?_
  refine Go_ops rfl (OpTo_pcall (v := .bool true) rfl rfl rfl rfl rfl (by kernel_rfl) (fun w hm _ => l15_early w) ?_)
  refine VC_sound tabOk 100 ?_
  refine ⟨fun h => by first | (simp at h; done) | (simp at h; omega) | (simp_all; done), fun _ => ?_⟩
  refine ⟨fun hc => ?_, fun hc => ?_⟩
  · refine Go_ops rfl (OpTo_pcall (v := .bool true) rfl rfl rfl rfl rfl (by kernel_rfl) (fun w hm _ => l15_early w) ?_)
    refine VC_sound tabOk 100 ?_
    rfl
  have hl80 : l.length ≤ 120 := by have := of_decide_eq_false hc; omega
  show Go _ _ _ _
  refine Go_ops rfl (OpTo_ncall rfl rfl rfl rfl rfl (by kernel_rfl) (fun w hm _ => start15 w) ?_)
  rintro _ _ ⟨bx, I, J, rfl, rfl⟩
  refine VC_sound tabOk 100 ?_
  refine Go_loop (σ := Nat × QS × RS) (fun s => [(0, .v (.slice A0 l.length c0)), (3, .v (pv bx)), (4, .v (.int .i64 s.1))]) (fun s => allR bx I J s.2.1 s.2.2) (fun s => s.1 ≤ l.length ∧ PInv s.1 s.2.1 s.2.2) (fun s => l.length - s.1) (0, QS0 ⟨1, [], []⟩, PS0) ⟨Nat.zero_le _, PInv.start⟩ ⟨rfl, rfl, rfl, trivial⟩ (fun _ h => h) ?_
  rintro ⟨i, S, P⟩ ⟨hi, hv⟩
  dsimp only at hi hv ⊢
  by_cases hlt : i < l.length
  · obtain ⟨ba, oa, rfl⟩ := RdW.some encA_is hr (ne_nil_of_lt hlt)
    obtain ⟨a, hga⟩ : ∃ a, l[i]? = some a := ⟨_, List.getElem?_eq_getElem hlt⟩
    have ho := hok a (List.mem_of_getElem? hga)
    refine VC_sound tabOk 100 ?_
    refine ⟨fun _ => ?_, fun h => by first | (simp at h; done) | (simp at h; omega) | (simp_all; done)⟩
    refine ⟨⟨by omega, by omega⟩, ?_⟩
    (repeat (first | refine Or.inl ⟨rfl, rfl, ?_⟩ | refine Or.inl ⟨rfl, ?_⟩ | refine Or.inr ?_))
    refine findR_E ?_
    refine Go_ops rfl (OpTo_loadRow tabOk encA_is (mkA a) rfl rfl rfl rfl rfl (fun h => by first | rfl | cases h) (fun w hm _ => hr.mod hm) hga (by simp only [addA]; rfl) ?_)
    refine VC_sound tabOk 100 ?_
    refine Go_ops rfl (OpTo_tcall [] (allR bx I J S P) rfl rfl rfl rfl rfl rfl (by kernel_rfl) (fun w hb hm hio hsp k => do_step bx I J i (by omega) S P hv a ⟨bounds_u8 ho.1, bounds_u8 ho.2.1, bounds_u8 ho.2.2.1⟩ w _ k) ?_)
    rintro _ _ ⟨S', P', hv', rfl, rfl⟩
    refine VC_sound tabOk 100 ?_
    refine ⟨fun h => by first | (simp at h; done) | (simp at h; omega) | (simp_all; done), fun _ => ?_⟩
    refine Go_ops rfl (OpTo_tcall [] (allR bx I J S' P') rfl rfl rfl rfl rfl rfl (by kernel_rfl) (fun w hb hm hio hsp k => like15 bx I J (i + 1) (by omega) S' P' hv' w _ k) ?_)
    rintro _ _ ⟨rfl, rfl⟩
    refine VC_sound tabOk 100 ?_
    refine ⟨fun h => by first | (simp at h; done) | (simp at h; omega) | (simp_all; done), fun _ => ?_⟩
    refine ⟨_, wrap_i64 (n := (i : Int) + 1) (by omega) (by omega), ?_⟩
    exact Go_fin (i + 1, S', P') ⟨by dsimp only; omega, hv'⟩ (by dsimp only; omega) ⟨rfl, rfl, rfl, trivial⟩ (fun _ h => h)
  have hil : i = l.length := by omega
  refine VC_sound tabOk 100 ?_
  refine ⟨fun h => by first | (simp at h; done) | (simp at h; omega) | (simp_all; done), fun _ => ?_⟩
  rfl
end Go.Proofs.YthpcahgdobnljaaGreat
