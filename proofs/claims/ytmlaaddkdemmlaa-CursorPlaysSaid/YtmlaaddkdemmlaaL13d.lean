/- The law CursorPlays: what its run comes to. -/
import Derived.Test.YtmlaaddkdemmlaaR13
import Derived.Test.YtmlaaddkdemmlaaRxEq
import Derived.Test.YtmlaaddkdemmlaaRxActs
import Derived.KernelRfl
set_option autoImplicit false
set_option linter.unusedVariables false
set_option linter.unusedSimpArgs false
namespace Go.Proofs.Ytmlaaddkdemmlaa
open Go.RX Go Go.RowKit Go.ChangeShapes Go.WideShapes Go.ChangeAt

structure CuActM where
  d_ : Int
  nm_ : ByteArray
  n : Int
def encA : CuActM → List Value := fun x => [.int .u8 x.d_, .string x.nm_, .int .i64 x.n]
theorem encA_is : IsEnc encA 3 := ⟨fun _ => rfl, fun x v hv => by simp [encA] at hv; rcases hv with rfl | rfl | rfl <;> rfl, by decide⟩
abbrev mkA (x : CuActM) : Value := .agg #[.int .u8 x.d_, .string x.nm_, .int .i64 x.n]
def okA (w : World) (x : CuActM) : Prop := (Lit.int .u8 x.d_).wf = true ∧ x.nm_.size ≤ maxLen ∧ (Lit.int .i64 x.n).wf = true
theorem rd_acts {H : Type} {enc : TypeId × Value → H} {w : World} {base : Nat} {sp : Nat → Bool} {held : Bool} {r : Reach} {b0 : Nat} {v : Value} {d : DataW H} {ps : List MemPlace} (hval : Value.okWide Try.prog w r b0 42 v) (hd : DataW.Trod enc Try.prog w base sp held 42 v d ps) :
    ∃ (A : Option Addr) (c : Nat) (xs : List CuActM), v = .slice A xs.length c ∧ RdW w A (xs.flatMap encA) ∧ (∀ x ∈ xs, okA w x) ∧ xs.length ≤ c ∧ c ≤ maxLen :=
  rd_slice encA_is Try.underlying42 (by kernel_rfl) (fun cs y fuel h => by
    obtain ⟨hl, hf⟩ := rd_struct tabOk (T := 48) rfl h
    rw [show Try.prog.cellsOf 48 = 3 from by kernel_rfl] at hl
    match cs, hl with
    | [v0, v1, v2], _ =>
      obtain ⟨y0, m0, h0⟩ := hf 0 0 5 rfl
      rw [show Try.prog.cellsOf 5 = 1 from by kernel_rfl] at h0
      obtain ⟨z0, e0, _, q0⟩ := DataW.trod_int Try.underlying5 h0
      simp at e0
      subst e0
      obtain ⟨y1, m1, h1⟩ := hf 1 1 9 rfl
      rw [show Try.prog.cellsOf 9 = 1 from by kernel_rfl] at h1
      obtain ⟨z1, e1, _, q1⟩ := DataW.trod_string Try.underlying9 h1
      simp at e1
      subst e1
      obtain ⟨y2, m2, h2⟩ := hf 2 2 2 rfl
      rw [show Try.prog.cellsOf 2 = 1 from by kernel_rfl] at h2
      obtain ⟨z2, e2, _, q2⟩ := DataW.trod_int Try.underlying2 h2
      simp at e2
      subst e2
      exact ⟨⟨z0, z1, z2⟩, rfl, q0, q1, q2⟩) hval hd

/-! ### one of them -/
theorem blks_mid (cs1 cs2 : Cs) (c : CurV × Nat) : blksOf (cs1 ++ c :: cs2) = blksOf cs1 ++ cuC c.2 c.1 :: blksOf cs2 := by simp [blksOf]
theorem alOf_mid (cs1 cs2 : Cs) (x x' : CurV) (q : Nat) (h : x'.name = x.name) : alOf (cs1 ++ (x', q) :: cs2) = alOf (cs1 ++ (x, q) :: cs2) := by simp [alOf, h]
theorem cuR_mid (b bm : Nat) (cs1 cs2 : Cs) (x x' : CurV) (q : Nat) (h : x'.name = x.name) :
    (cuR b bm (cs1 ++ (x', q) :: cs2)).Perm ((cuC q x' :: cuB b bm (alOf (cs1 ++ (x, q) :: cs2))) ++ (blksOf cs1 ++ blksOf cs2)) := by
  rw [cuR, blks_mid, alOf_mid cs1 cs2 x x' q h, ← List.append_assoc]
  refine (List.perm_middle).trans ?_
  rw [List.append_assoc]
  exact List.Perm.refl _
theorem cuR_lift {f : FuncId} {args : Array Value} {b bm : Nat} {cs1 cs2 : Cs} {x : CurV} {q : Nat} (x' : CurV) {V : Value} (hx : x'.name = x.name)
    (h : ∀ (w0 : World) (hfs : List PH), Mod hfs (cuC q x :: cuB b bm (alOf (cs1 ++ (x, q) :: cs2))) w0 → Calls Try.prog f args w0 fun e w' => ∃ v Rs', e = .returned v ∧ (v = V ∧ Rs' = cuC q x' :: cuB b bm (alOf (cs1 ++ (x, q) :: cs2))) ∧ Mod hfs Rs' w' ∧ Oth w0 w')
    (w0 : World) (hfs : List PH) (hm : Mod hfs (cuR b bm (cs1 ++ (x, q) :: cs2)) w0) :
    Calls Try.prog f args w0 fun e w' => ∃ v Rs', e = .returned v ∧ (v = V ∧ Rs' = cuR b bm (cs1 ++ (x', q) :: cs2)) ∧ Mod hfs Rs' w' ∧ Oth w0 w' := by
  obtain ⟨hb, h1, h2⟩ := Mod.split (a := cuC q x :: cuB b bm (alOf (cs1 ++ (x, q) :: cs2))) (b := blksOf cs1 ++ blksOf cs2) (hm.permRs (cuR_mid b bm cs1 cs2 x x q rfl))
  refine (h w0 _ h1).mono ?_
  rintro e w' ⟨v, Rs', rfl, ⟨rfl, rfl⟩, hm', hio⟩
  exact ⟨_, _, rfl, ⟨rfl, rfl⟩, (h2 _ _ hm').permRs (cuR_mid b bm cs1 cs2 x x' q hx).symm, hio⟩
theorem cuR_none {f : FuncId} {args : Array Value} {b bm : Nat} {cs : Cs} {V : Value}
    (h : ∀ (w0 : World) (hfs : List PH), Mod hfs (cuB b bm (alOf cs)) w0 → Calls Try.prog f args w0 fun e w' => ∃ v Rs', e = .returned v ∧ (v = V ∧ Rs' = cuB b bm (alOf cs)) ∧ Mod hfs Rs' w' ∧ Oth w0 w')
    (w0 : World) (hfs : List PH) (hm : Mod hfs (cuR b bm cs) w0) :
    Calls Try.prog f args w0 fun e w' => ∃ v Rs', e = .returned v ∧ (v = V ∧ Rs' = cuR b bm cs) ∧ Mod hfs Rs' w' ∧ Oth w0 w' := by
  obtain ⟨hb, h1, h2⟩ := Mod.split (a := cuB b bm (alOf cs)) (b := blksOf cs) hm
  refine (h w0 _ h1).mono ?_
  rintro e w' ⟨v, Rs', rfl, ⟨rfl, rfl⟩, hm', hio⟩
  exact ⟨_, _, rfl, ⟨rfl, rfl⟩, h2 _ _ hm', hio⟩

/-! ### alike -/
structure LikeY (cs : Cs) (ys : List CurV) : Prop where
  perm : (cs.map (·.1)).Perm ys
  rise : Rise ltS CurV.name ys
  nd : (ys.map CurV.name).Nodup
  len : ys.length ≤ 4
theorem names_eq (cs : Cs) : names cs = (cs.map (·.1)).map CurV.name := by simp [names, Function.comp_def]
theorem LikeY.names {cs : Cs} {ys : List CurV} (h : LikeY cs ys) : (Go.Proofs.Ytmlaaddkdemmlaa.names cs).Nodup := by
  rw [names_eq]; exact (h.perm.map _).nodup_iff.2 h.nd
theorem LikeY.mem {cs : Cs} {ys : List CurV} (h : LikeY cs ys) (k : ByteArray) : k ∈ Go.Proofs.Ytmlaaddkdemmlaa.names cs ↔ k ∈ ys.map CurV.name := by
  rw [names_eq]; exact (h.perm.map _).mem_iff
theorem LikeY.clen {cs : Cs} {ys : List CurV} (h : LikeY cs ys) : cs.length = ys.length := by have := h.perm.length_eq; simpa using this
theorem LikeY.nil : LikeY [] [] := ⟨List.Perm.nil, List.Pairwise.nil, List.Pairwise.nil, by decide⟩
theorem LikeY.split {cs : Cs} {ys : List CurV} (h : LikeY cs ys) {k : ByteArray} (hk : k ∈ ys.map CurV.name) :
    ∃ cs1 cs2 x q y1 y2, cs = cs1 ++ (x, q) :: cs2 ∧ ys = y1 ++ x :: y2 ∧ x.name = k ∧ ∀ z ∈ y1, z.name ≠ k := by
  obtain ⟨x, hx, rfl⟩ := List.mem_map.1 hk
  obtain ⟨y1, y2, rfl⟩ := List.append_of_mem hx
  have hc := h.perm.mem_iff.2 hx
  obtain ⟨⟨x', q⟩, hc1, hc2⟩ := List.mem_map.1 hc
  obtain ⟨cs1, cs2, rfl⟩ := List.append_of_mem hc1
  obtain rfl : x' = x := hc2
  refine ⟨cs1, cs2, x', q, y1, y2, rfl, rfl, rfl, fun z hz e => ?_⟩
  have hn := h.nd
  rw [List.map_append, List.map_cons, List.nodup_append] at hn
  exact hn.2.2 z.name (List.mem_map_of_mem hz) x'.name (by simp) e
theorem LikeY.set {cs1 cs2 : Cs} {x x' : CurV} {q : Nat} {y1 y2 : List CurV} (h : LikeY (cs1 ++ (x, q) :: cs2) (y1 ++ x :: y2)) (hx : x'.name = x.name) : LikeY (cs1 ++ (x', q) :: cs2) (y1 ++ x' :: y2) := by
  have hmap : (y1 ++ x' :: y2).map CurV.name = (y1 ++ x :: y2).map CurV.name := by simp [hx]
  refine ⟨?_, ?_, by rw [hmap]; exact h.nd, by have := h.len; simp at this ⊢; omega⟩
  · have hp := h.perm
    simp only [List.map_append, List.map_cons] at hp ⊢
    have h1 : (cs1.map (·.1) ++ cs2.map (·.1)).Perm (y1 ++ y2) := List.Perm.cons_inv (a := x) ((List.perm_middle.symm.trans hp).trans List.perm_middle)
    exact List.perm_middle.trans ((h1.cons x').trans List.perm_middle.symm)
  · have hr := h.rise
    unfold Rise at hr ⊢
    have e : ∀ l : List CurV, (l.Pairwise fun a b => ltS b.name a.name = false) ↔ ((l.map CurV.name).Pairwise fun a b => ltS b a = false) := fun l => by rw [List.pairwise_map]
    rw [e] at hr ⊢
    rw [hmap]; exact hr
theorem LikeY.reg {cs : Cs} {ys zs : List CurV} (h : LikeY cs ys) {x : CurV} {q : Nat} (hx : ¬ x.name ∈ ys.map CurV.name) (h4 : ys.length < 4) (hp : (ys ++ [x]).Perm zs) (hr : Rise ltS CurV.name zs) : LikeY (cs ++ [(x, q)]) zs := by
  refine ⟨?_, hr, ?_, ?_⟩
  · rw [List.map_append]
    exact (h.perm.append_right _).trans hp
  · refine (hp.map CurV.name).nodup_iff.1 ?_
    rw [List.map_append, List.nodup_append]
    exact ⟨h.nd, by simp, fun a ha b hb => by
      simp at hb; subst hb; rintro rfl; exact hx ha⟩
  · rw [← hp.length_eq]; simp; omega
theorem LikeY.del {cs1 cs2 : Cs} {x : CurV} {q : Nat} {y1 y2 : List CurV} (h : LikeY (cs1 ++ (x, q) :: cs2) (y1 ++ x :: y2)) : LikeY (delSt x.name (cs1 ++ (x, q) :: cs2)) (y1 ++ y2) := by
  have hn := h.names
  have hd : delSt x.name (cs1 ++ (x, q) :: cs2) = cs1 ++ cs2 := by
    simp only [Go.Proofs.Ytmlaaddkdemmlaa.names, List.map_append, List.map_cons, List.nodup_append, List.nodup_cons] at hn
    have keep : ∀ l : Cs, (∀ c ∈ l, c.1.name ≠ x.name) → delSt x.name l = l := fun l hl => List.filter_eq_self.2 fun c hc => by simpa using hl c hc
    have a1 := keep cs1 fun c hc e => hn.2.2 c.1.name (List.mem_map_of_mem (f := fun c : CurV × Nat => c.1.name) hc) x.name (by simp) e
    have a2 := keep cs2 fun c hc e => hn.2.1.1 (e ▸ List.mem_map_of_mem (f := fun c : CurV × Nat => c.1.name) hc)
    have : delSt x.name (cs1 ++ (x, q) :: cs2) = delSt x.name cs1 ++ delSt x.name cs2 := by simp [delSt]
    rw [this, a1, a2]
  rw [hd]
  have hsub : (y1 ++ y2).Sublist (y1 ++ x :: y2) := List.Sublist.append_left (List.sublist_cons_self _ _) _
  refine ⟨?_, h.rise.sublist hsub, h.nd.sublist (hsub.map _), by have := hsub.length_le; have := h.len; omega⟩
  have hp := h.perm
  simp only [List.map_append, List.map_cons] at hp ⊢
  exact List.Perm.cons_inv (a := x) ((List.perm_middle.symm.trans hp).trans List.perm_middle)
theorem LikeY.regE {cs : Cs} {ys : List CurV} (h : LikeY cs ys) (k : ByteArray) (n : Int) : regE k n (alOf cs) = regY k n ys := by
  have h1 : ((aget k (alOf cs)).isSome = true) ↔ 0 ≤ fI k ys := by rw [aget_names, h.mem, fI_in]
  have h2 : (alOf cs).length = ys.length := by rw [← h.clen]; simp [alOf]
  unfold Go.Proofs.Ytmlaaddkdemmlaa.regE regY
  simp only [h1, h2]
theorem LikeY.aget {cs1 cs2 : Cs} {x : CurV} {q : Nat} {ys : List CurV} (h : LikeY (cs1 ++ (x, q) :: cs2) ys) : Go.RX.aget x.name (alOf (cs1 ++ (x, q) :: cs2)) = some q := aget_alOf h.names (c := (x, q)) (by simp)
theorem LikeY.agetN {cs : Cs} {ys : List CurV} (h : LikeY cs ys) {k : ByteArray} (hk : ¬ k ∈ ys.map CurV.name) : Go.RX.aget k (alOf cs) = none := by
  rw [aget_none, keys_alOf, h.mem]; exact hk

def cvEq (a b : CurV) : Bool := a.name.toList == b.name.toList && (a.last == b.last && (a.opn == b.opn && true))
theorem cvEq_self (a : CurV) : cvEq a a = true := by simp [cvEq]
theorem cv_neq (a b : CurV) (x y : Operand) (w : World) : (binRun .neq 29 x y (mkC a) (mkC b)).run Try.prog w = .ok (.bool (!cvEq a b)) w :=
  (run_eq_struct (r := cvEq a b) tabOk (ts := [29]) (fun t ht => by simp at ht; subst ht; kernel_rfl) (by kernel_rfl) rfl x y w).2

set_option maxHeartbeats 4000000 in
theorem l13_like (b bm br : Nat) (A : Option Addr) (c : Nat) (cs : Cs) (ys : List CurV) (hL : LikeY cs ys) (w0 : World) (hfs : List PH) (hm : Mod hfs (rfC br A c ys ++ cuR b bm cs) w0) :
    Calls Try.prog 24 #[ptrV b, .pointer (some ⟨br, 0, none⟩)] w0 fun e w' => ∃ v Rs', e = .returned v ∧ (v = .bool true ∧ Rs' = rfC br A c ys ++ cuR b bm cs) ∧ Mod hfs Rs' w' ∧ Oth w0 w' := by
  have hlen := hL.len
  have hcl := hL.clen
  have hA : ys ≠ [] → ∃ b o, A = some ⟨b, o, none⟩ := fun h => hm.own_some (i := 1) rfl h
  have uniq : ∀ zs : List CurV, zs.Perm (cs.map (·.1)) → Rise ltS CurV.name zs → zs = ys := fun zs h1 h2 => (rise_uniq (hL.perm.symm.trans h1.symm) hL.nd hL.rise h2).symm
  refine enterN (tab := tab) Try.func24 rfl Try.ntmps24 rfl (args := [_, _]) rfl hm ?_
  refine VC_sound tabOk 100 ?_
  show Go _ _ _ _
  refine Go_ops rfl (OpTo_mcall (cuR b bm cs) (rfC br A c ys) List.perm_append_comm rfl rfl rfl rfl rfl (by kernel_rfl) (fun w hb hm hio hsp k => cu_all b bm cs (by omega) w _ k) ?_)
  rintro _ _ ⟨B, d, zs, rfl, hp, hr, rfl⟩
  obtain rfl := uniq zs hp hr
  refine Go_res (own encC 3 29 B d zs :: (rfC br A c zs ++ cuR b bm cs)) (fun _ h => h.permRs (List.Perm.cons _ List.perm_append_comm)) ?_
  refine VC_sound tabOk 100 ?_
  show Go _ _ _ _
  refine Go_ops rfl (OpTo_mcall (cuR b bm cs) (own encC 3 29 B d zs :: rfC br A c zs) (List.perm_append_comm (l₁ := [_, _, _])) rfl rfl rfl rfl rfl (by kernel_rfl) (fun w hb hm hio hsp k => cu_least b bm cs (by omega) w _ k) ?_)
  rintro _ _ ⟨⟨us, rfl, hu1, hu2⟩, rfl⟩
  obtain rfl := uniq us hu1 hu2
  refine Go_res (own encC 3 29 B d us :: (rfC br A c us ++ cuR b bm cs)) (fun _ h => h.permRs (List.perm_append_comm (l₂ := [_, _, _]))) ?_
  refine VC_sound tabOk 100 ?_
  show Go _ _ _ _
  refine Go_ops rfl (OpTo_mcall (rfC br A c us) (own encC 3 29 B d us :: cuR b bm cs) (List.perm_middle (l₁ := rfC br A c us)).symm rfl rfl rfl rfl rfl (by kernel_rfl) (fun w hb hm hio hsp k => r13_least br A c us (by omega) w _ k) ?_)
  rintro _ _ ⟨rfl, rfl⟩
  refine Go_res (own encC 3 29 B d us :: (rfC br A c us ++ cuR b bm cs)) (fun _ h => h.permRs (List.perm_middle (l₁ := rfC br A c us))) ?_
  refine VC_sound tabOk 100 ?_
  (repeat (first | refine Or.inl ⟨rfl, rfl, ?_⟩ | refine Or.inl ⟨rfl, ?_⟩ | refine Or.inr ?_))
  refine ⟨fun h => by first | (simp at h; done) | (simp at h; omega) | (simp_all; done), fun _ => ?_⟩
  refine ⟨fun h => by first | (simp at h; done) | (simp at h; omega) | (simp_all; done), fun _ => ?_⟩
  refine ⟨fun h => by first | (simp at h; done) | (simp at h; omega) | (simp_all; done), fun _ => ?_⟩
  refine Go_loop (σ := Nat) (fun i => [(0, .v (ptrV b)), (1, .v (.pointer (some ⟨br, 0, none⟩))), (5, .v (.slice B us.length d)), (10, .v (.int .i64 i))]) (fun _ => own encC 3 29 B d us :: (rfC br A c us ++ cuR b bm cs)) (fun i => i ≤ us.length) (fun i => us.length - i) 0 (Nat.zero_le _) ⟨rfl, rfl, rfl, rfl, trivial⟩ (fun _ h => h) ?_
  intro i hi
  dsimp only at hi ⊢
  by_cases hlt : i < us.length
  · obtain ⟨ba, oa, rfl⟩ := hA (ne_nil_of_lt hlt)
    refine Go_with _ (fun w hm _ => hm.own_some (i := 0) rfl (ne_nil_of_lt hlt)) ?_
    rintro ⟨bb, ob, rfl⟩
    obtain ⟨y, hgy⟩ : ∃ y, us[i]? = some y := ⟨_, List.getElem?_eq_getElem hlt⟩
    obtain ⟨cs1, cs2, x, q, y1, y2, rfl, hus, hxn, hy1⟩ := hL.split (k := y.name) (List.mem_map_of_mem (List.mem_of_getElem? hgy))
    have hxy : x = y := by
      obtain ⟨j, hj⟩ := List.mem_iff_getElem?.1 (show x ∈ us by rw [hus]; simp)
      have hn := hL.nd
      rw [List.nodup_iff_pairwise_ne, List.pairwise_map, List.pairwise_iff_getElem] at hn
      obtain ⟨hj1, hj2⟩ := List.getElem?_eq_some_iff.1 hj
      obtain ⟨hi1, hi2⟩ := List.getElem?_eq_some_iff.1 hgy
      have : j = i := by
        rcases Nat.lt_trichotomy j i with h | h | h
        · exact absurd (by rw [hj2, hi2]; exact hxn) (hn j i hj1 hi1 h)
        · exact h
        · exact absurd (by rw [hj2, hi2]; exact hxn.symm) (hn i j hi1 hj1 h)
      subst this
      rw [hgy] at hj; simpa using hj.symm
    subst hxy
    refine VC_sound tabOk 100 ?_
    refine ⟨fun _ => ?_, fun h => by first | (simp at h; done) | (simp at h; omega) | (simp_all; done)⟩
    refine ⟨⟨by omega, by omega⟩, ?_⟩
    refine Or.inr (findR_E ?_)
    refine Go_ops rfl (OpTo_loadPart tabOk encC_is (n := i) (j := 0) (.string x.name) rfl rfl rfl (fun w hm _ => hm.own_rd (i := 0) rfl) hgy rfl (by simp only [addA]; rfl) ?_)
    refine VC_sound tabOk 100 ?_
    show Go _ _ _ _
    refine Go_ops rfl (OpTo_mcall (cuR b bm (cs1 ++ (x, q) :: cs2)) (own encC 3 29 (some ⟨bb, ob, none⟩) d us :: rfC br (some ⟨ba, oa, none⟩) c us) (List.perm_append_comm (l₁ := [_, _, _])) rfl rfl rfl rfl rfl (by kernel_rfl) (fun w hb hm hio hsp k => cuR_lift (f := 13) x rfl (fun w0 hfs h => cu_get b bm q _ x.name x hL.aget w0 hfs h) w _ k) ?_)
    rintro _ _ ⟨rfl, rfl⟩
    refine Go_res (own encC 3 29 (some ⟨bb, ob, none⟩) d us :: (rfC br (some ⟨ba, oa, none⟩) c us ++ cuR b bm (cs1 ++ (x, q) :: cs2))) (fun _ h => h.permRs (List.perm_append_comm (l₂ := [_, _, _]))) ?_
    refine VC_sound tabOk 100 ?_
    intro b11 _
    (repeat (first | refine Or.inl ⟨rfl, rfl, ?_⟩ | refine Or.inl ⟨rfl, ?_⟩ | refine Or.inr ?_))
    show Go _ _ _ _
    refine Go_any mixed [] [(0, false), (1, false), (2, false), (4, false), (5, false), (6, false), (3, false), (7, false), (8, false), (9, false), (10, false), (11, false), (12, false), (13, false), (14, false), (16, false), (17, false), (18, false), (20, false), (15, false), (19, false), (21, false), (22, false), (23, false), (24, false), (25, false), (26, false), (27, false), (28, false), (29, false), (30, false), (32, false), (33, false), (34, false), (36, false), (31, false), (35, false), (37, false), (38, false), (39, false), (40, false), (41, false), (42, false), (43, false), (44, false), (45, false), (46, false), (48, false), (49, false), (50, false), (52, false), (47, false), (51, false), (53, false), (54, false), (55, false), (56, false), (57, false)] rfl (by kernel_rfl) (by kernel_rfl) [.blk b11 29 (encC x), .blk br 46 [.slice (some ⟨ba, oa, none⟩) us.length c]] (fun w => RdW w (some ⟨bb, ob, none⟩) (us.flatMap encC) ∧ RdW w (some ⟨ba, oa, none⟩) (us.flatMap encC)) (fun w w' hk h => ⟨h.1.old hk, h.2.old hk⟩) (fun w hm _ => ⟨Holds.of_idx [0, 2] hm, by exact Mod.own_rd (k := 3) (T := 29) (c := d) (i := 1) hm rfl, by exact Mod.own_rd (k := 3) (T := 65) (c := c) (i := 3) hm rfl⟩) ?_
    refine VC_sound tabOk 100 ?_
    refine ⟨fun h => by first | (simp at h; done) | (simp at h; omega) | (simp_all; done), fun _ => ?_⟩
    refine ⟨⟨by omega, by omega⟩, ?_⟩
    (repeat (first | refine Or.inl ⟨rfl, rfl, ?_⟩ | refine Or.inl ⟨rfl, ?_⟩ | refine Or.inr ?_))
    refine Go_first (v := mkC x) rfl rfl rfl rfl (fun w _ hw => rxLoadRow tabOk rfl encC_is rfl (fun h => by first | rfl | cases h) hw.1 hgy (by simp only [addA]; rfl) rfl) ?_
    refine VC_sound tabOk 100 ?_
    refine Go_firstB (.bool (!cvEq x x)) rfl rfl rfl rfl rfl (fun w => cv_neq x x _ _ w) ?_
    rw [cvEq_self]
    refine VC_sound tabOk 100 ?_
    refine ⟨fun h => by first | (simp at h; done) | (simp at h; omega) | (simp_all; done), fun _ => ?_⟩
    refine ⟨⟨by omega, by omega⟩, ?_⟩
    (repeat (first | refine Or.inl ⟨rfl, rfl, ?_⟩ | refine Or.inl ⟨rfl, ?_⟩ | refine Or.inr ?_))
    refine Go_first (v := .string x.name) rfl rfl rfl rfl (fun w _ hw => rxLoadPart tabOk rfl encC_is hw.1 hgy (off := 0) rfl (by simp only [addA]; rfl)) ?_
    refine VC_sound tabOk 100 ?_
    (repeat (first | refine Or.inl ⟨rfl, rfl, ?_⟩ | refine Or.inl ⟨rfl, ?_⟩ | refine Or.inr ?_))
    refine ⟨⟨by omega, by omega⟩, ?_⟩
    (repeat (first | refine Or.inl ⟨rfl, rfl, ?_⟩ | refine Or.inl ⟨rfl, ?_⟩ | refine Or.inr ?_))
    refine Go_first (v := .string x.name) rfl rfl rfl rfl (fun w _ hw => rxLoadPart tabOk rfl encC_is hw.2 hgy (off := 0) rfl (by simp only [addA]; rfl)) ?_
    refine VC_sound tabOk 100 ?_
    refine ⟨fun h => by first | (simp at h; done) | (simp at h; omega) | (simp_all; done), fun _ => ?_⟩
    refine ⟨⟨by omega, by omega⟩, ?_⟩
    (repeat (first | refine Or.inl ⟨rfl, rfl, ?_⟩ | refine Or.inl ⟨rfl, ?_⟩ | refine Or.inr ?_))
    refine Go_first (v := .int .i64 x.last) rfl rfl rfl rfl (fun w _ hw => rxLoadPart tabOk rfl encC_is hw.1 hgy (off := 1) rfl (by simp only [addA]; rfl)) ?_
    refine VC_sound tabOk 100 ?_
    (repeat (first | refine Or.inl ⟨rfl, rfl, ?_⟩ | refine Or.inl ⟨rfl, ?_⟩ | refine Or.inr ?_))
    refine ⟨⟨by omega, by omega⟩, ?_⟩
    (repeat (first | refine Or.inl ⟨rfl, rfl, ?_⟩ | refine Or.inl ⟨rfl, ?_⟩ | refine Or.inr ?_))
    refine Go_first (v := .int .i64 x.last) rfl rfl rfl rfl (fun w _ hw => rxLoadPart tabOk rfl encC_is hw.2 hgy (off := 1) rfl (by simp only [addA]; rfl)) ?_
    refine VC_sound tabOk 100 ?_
    refine ⟨fun h => by first | (simp at h; done) | (simp at h; omega) | (simp_all; done), fun _ => ?_⟩
    refine ⟨⟨by omega, by omega⟩, ?_⟩
    (repeat (first | refine Or.inl ⟨rfl, rfl, ?_⟩ | refine Or.inl ⟨rfl, ?_⟩ | refine Or.inr ?_))
    refine Go_first (v := .int .i64 x.opn) rfl rfl rfl rfl (fun w _ hw => rxLoadPart tabOk rfl encC_is hw.1 hgy (off := 2) rfl (by simp only [addA]; rfl)) ?_
    refine VC_sound tabOk 100 ?_
    (repeat (first | refine Or.inl ⟨rfl, rfl, ?_⟩ | refine Or.inl ⟨rfl, ?_⟩ | refine Or.inr ?_))
    refine ⟨⟨by omega, by omega⟩, ?_⟩
    (repeat (first | refine Or.inl ⟨rfl, rfl, ?_⟩ | refine Or.inl ⟨rfl, ?_⟩ | refine Or.inr ?_))
    refine Go_first (v := .int .i64 x.opn) rfl rfl rfl rfl (fun w _ hw => rxLoadPart tabOk rfl encC_is hw.2 hgy (off := 2) rfl (by simp only [addA]; rfl)) ?_
    refine VC_sound tabOk 100 ?_
    refine ⟨fun h => by first | (simp at h; done) | (simp at h; omega) | (simp_all; done), fun _ => ?_⟩
    refine ⟨_, wrap_i64 (n := (i : Int) + 1) (by omega) (by omega), ?_⟩
    exact Go_fin (i + 1) (by omega) (by omega) ⟨rfl, rfl, rfl, rfl, trivial⟩ (fun _ h => Mod.drop (a := [_]) h)
  refine VC_sound tabOk 100 ?_
  refine ⟨fun h => by first | (simp at h; done) | (simp at h; omega) | (simp_all; done), fun _ => ?_⟩
  exact ⟨_, ⟨rfl, rfl⟩, fun _ _ h => h.drop (a := [_])⟩
/-- The name that an act has. -/
def nameA (a : CuActM) : ByteArray := if 240 ≤ a.d_ then a.nm_ else bytesOf [97 + (a.d_.tdiv 8).tmod 6]
set_option maxHeartbeats 1000000 in
theorem l13_name (a : CuActM) (hd : 0 ≤ a.d_ ∧ a.d_ ≤ 255) (w0 : World) : Calls Try.prog 18 #[mkA a] w0 fun e w' => e = .returned (.string (nameA a)) ∧ BelowD w0.heap.size w0 w' := by
  have h8 : 0 ≤ a.d_.tdiv 8 := Int.tdiv_nonneg hd.1 (by decide)
  have h6 := Int.tmod_nonneg 6 h8
  have h6' := Int.tmod_lt_of_pos (a.d_.tdiv 8) (b := 6) (by decide)
  have h8' : a.d_.tdiv 8 ≤ 255 := by rw [Int.tdiv_eq_ediv_of_nonneg hd.1]; omega
  refine enterP (tab := tab) Try.func18 rfl Try.ntmps18 rfl (args := [_]) rfl ?_
  refine VC_sound tabOk 100 ?_
  intro b1 _
  (repeat (first | refine Or.inl ⟨rfl, rfl, ?_⟩ | refine Or.inl ⟨rfl, ?_⟩ | refine Or.inr ?_))
  refine ⟨fun h => ?_, fun h => ?_⟩
  · (repeat (first | refine Or.inl ⟨rfl, rfl, ?_⟩ | refine Or.inl ⟨rfl, ?_⟩ | refine Or.inr ?_))
    exact congrArg Value.string (by rw [nameA, if_pos (of_decide_eq_true h)])
  (repeat (first | refine Or.inl ⟨rfl, rfl, ?_⟩ | refine Or.inl ⟨rfl, ?_⟩ | refine Or.inr ?_))
  refine ⟨by decide, _, wrap_u8 (n := a.d_.tdiv 8) (by omega) (by omega), ?_⟩
  refine ⟨by decide, _, rfl, ?_⟩
  refine ⟨_, wrap_u8 (n := 97 + (a.d_.tdiv 8).tmod 6) (by omega) (by omega), ?_⟩
  intro b13 _
  refine Go_ops rfl (OpTo_bytesStr tabOk (ns := [97 + (a.d_.tdiv 8).tmod 6]) rfl rfl rfl rfl rfl rfl (fun w hm _ => hm.blk_rd (i := 0) rfl) ?_)
  refine VC_sound tabOk 100 ?_
  exact congrArg Value.string (by rw [nameA, if_neg (of_decide_eq_false h)])

theorem tmod_nat13 (k : Nat) (hk : 0 < k) {n : Int} (h : 0 ≤ n) : ∃ K : Nat, n.tmod k = K ∧ K < k := by
  have h1 := Int.tmod_nonneg (k : Int) h
  have h2 := Int.tmod_lt_of_pos n (b := (k : Int)) (by omega)
  exact ⟨(n.tmod k).toNat, by omega, by omega⟩

set_option maxHeartbeats 16000000 in
theorem l13_CursorPlays (A0 : Option Addr) (c0 : Nat) (l : List CuActM) (w0 : World) (hr : RdW w0 A0 (l.flatMap encA)) (hok : ∀ z ∈ l, okA w0 z) :
    Calls Try.prog 7 #[.slice A0 l.length c0] w0 fun e w' => e = .returned (.bool true) ∧ BelowD w0.heap.size w0 w' := by
  refine enterP (tab := tab) Try.func7 rfl Try.ntmps7 rfl (args := [_]) rfl ?_
  refine VC_sound tabOk 100 ?_
  refine Go_ops rfl (OpTo_pcall (v := .bool true) rfl rfl rfl rfl rfl (by kernel_rfl) (fun w hm _ => l13_done w) ?_)
  refine VC_sound tabOk 100 ?_
  refine ⟨fun h => by first | (simp at h; done) | (simp at h; omega) | (simp_all; done), fun _ => ?_⟩
  refine ⟨fun hc => ?_, fun hc => ?_⟩
  · refine Go_ops rfl (OpTo_pcall (v := .bool true) rfl rfl rfl rfl rfl (by kernel_rfl) (fun w hm _ => l13_done w) ?_)
    refine VC_sound tabOk 100 ?_
    rfl
  have hl80 : l.length ≤ 80 := by have := of_decide_eq_false hc; omega
  show Go _ _ _ _
  refine Go_ops rfl (OpTo_ncall rfl rfl rfl rfl rfl (by kernel_rfl) (fun w hm _ => cu_new w) ?_)
  rintro _ _ ⟨b, bm, rfl, rfl⟩
  refine VC_sound tabOk 100 ?_
  intro br _
  refine Go_loop (σ := Nat × Option Addr × Nat × List CurV × Cs) (fun s => [(0, .v (.slice A0 l.length c0)), (3, .v (ptrV b)), (4, .v (.pointer (some ⟨br, 0, none⟩))), (5, .v (.int .i64 s.1))]) (fun s => rfC br s.2.1 s.2.2.1 s.2.2.2.1 ++ cuR b bm s.2.2.2.2) (fun s => s.1 ≤ l.length ∧ LikeY s.2.2.2.2 s.2.2.2.1) (fun s => l.length - s.1) (0, none, 0, [], []) ⟨Nat.zero_le _, LikeY.nil⟩ ⟨rfl, rfl, rfl, rfl, trivial⟩ (fun _ h => (h.own_nil (enc := encC) (k := 3) (T := 65) none).sel [1, 0, 2, 3] rfl) ?_
  rintro ⟨i, A, c, ys, cs⟩ ⟨hi, hL⟩
  dsimp only at hi hL ⊢
  have hlen := hL.len
  by_cases hlt : i < l.length
  · obtain ⟨ba, oa, rfl⟩ := RdW.some encA_is hr (ne_nil_of_lt hlt)
    obtain ⟨a, hga⟩ : ∃ a, l[i]? = some a := ⟨_, List.getElem?_eq_getElem hlt⟩
    have ho := hok a (List.mem_of_getElem? hga)
    have hd := bounds_u8 ho.1
    obtain ⟨D2, hD2, hD22⟩ := tmod_nat13 2 (by decide) hd.1
    obtain ⟨D8, hD8, hD88⟩ := tmod_nat13 8 (by decide) hd.1
    refine VC_sound tabOk 100 ?_
    refine ⟨fun _ => ?_, fun h => by first | (simp at h; done) | (simp at h; omega) | (simp_all; done)⟩
    refine ⟨⟨by omega, by omega⟩, ?_⟩
    refine Or.inr (findR_E ?_)
    refine Go_ops rfl (OpTo_loadRow tabOk encA_is (mkA a) rfl rfl rfl rfl rfl (fun h => by first | rfl | cases h) (fun w hm _ => hr.mod hm) hga (by simp only [addA]; rfl) ?_)
    refine VC_sound tabOk 100 ?_
    intro b6 _
    (repeat (first | refine Or.inl ⟨rfl, rfl, ?_⟩ | refine Or.inl ⟨rfl, ?_⟩ | refine Or.inr ?_))
    refine ⟨fun h60 => ?_, fun h60 => ?_⟩
    · rfl
    (repeat (first | refine Or.inl ⟨rfl, rfl, ?_⟩ | refine Or.inl ⟨rfl, ?_⟩ | refine Or.inr ?_))
    refine Go_ops rfl (OpTo_pcall (v := .string (nameA a)) rfl rfl rfl rfl rfl (by kernel_rfl) (fun w hm _ => l13_name a hd w) ?_)
    refine VC_sound tabOk 15 ?_
    (repeat (first | refine Or.inl ⟨rfl, rfl, ?_⟩ | refine Or.inl ⟨rfl, ?_⟩ | refine Or.inr ?_))
    (repeat (first | refine Or.inl ⟨rfl, rfl, ?_⟩ | refine Or.inl ⟨rfl, ?_⟩ | refine Or.inr ?_))
    refine ⟨by decide, _, hD2.symm, ?_⟩
    show Go _ (KI.code (Code.cond _ _ _) :: _) _ _
    refine Go_cut (σ := Int) (fun n => [(0, .v (.slice (some ⟨ba, oa, none⟩) l.length c0)), (3, .v (ptrV b)), (4, .v (.pointer (some ⟨br, 0, none⟩))), (5, .v (.int .i64 i)), (6, .v (.pointer (some ⟨b6, 0, none⟩))), (7, .v (.string (nameA a))), (8, .v (.int .i64 n))]) (fun _ => .blk b6 48 (encA a) :: (rfC br A c ys ++ cuR b bm cs)) (fun _ => True) ?_ ?_
    · refine VC_sound tabOk 100 ?_
      refine ⟨fun h => ?_, fun h => ?_⟩
      · (repeat (first | refine Or.inl ⟨rfl, rfl, ?_⟩ | refine Or.inl ⟨rfl, ?_⟩ | refine Or.inr ?_))
        refine ⟨by decide, _, rfl, ?_⟩
        exact Go_put _ trivial ⟨rfl, rfl, rfl, rfl, rfl, rfl, rfl, trivial⟩ (fun _ h => h)
      · exact Go_put _ trivial ⟨rfl, rfl, rfl, rfl, rfl, rfl, rfl, trivial⟩ (fun _ h => h)
    intro n _
    generalize nameA a = s
    refine VC_sound tabOk 10 ?_
    (repeat (first | refine Or.inl ⟨rfl, rfl, ?_⟩ | refine Or.inl ⟨rfl, ?_⟩ | refine Or.inr ?_))
    refine ⟨by decide, _, hD8.symm, ?_⟩
    show Go _ (KI.code (Code.block _ _) :: _) _ _
    refine Go_res (rfC br A c ys ++ cuR b bm cs) (fun _ h => Mod.drop (a := [_]) h) ?_
    refine Go_cut (σ := Option Addr × Nat × List CurV × Cs) (fun u => [(0, .v (.slice (some ⟨ba, oa, none⟩) l.length c0)), (3, .v (ptrV b)), (4, .v (.pointer (some ⟨br, 0, none⟩))), (5, .v (.int .i64 i)), (7, .v (.string s)), (9, .v (.bool true))]) (fun u => rfC br u.1 u.2.1 u.2.2.1 ++ cuR b bm u.2.2.2) (fun u => LikeY u.2.2.2 u.2.2.1) ?_ ?_
    · refine VC_sound tabOk 6 ?_
      show Go _ (KI.code (Code.cond _ _ _) :: _) _ _
      refine Go_cut (σ := Bool) (fun q => [(0, .v (.slice (some ⟨ba, oa, none⟩) l.length c0)), (3, .v (ptrV b)), (4, .v (.pointer (some ⟨br, 0, none⟩))), (5, .v (.int .i64 i)), (7, .v (.string s)), (8, .v (.int .i64 n)), (9, .v (.bool true)), (54, .v (.int .u8 D8)), (62, .v (.bool q))]) (fun _ => rfC br A c ys ++ cuR b bm cs) (fun _ => True) ?_ ?_
      · refine VC_sound tabOk 100 ?_
        refine ⟨fun h => ?_, fun h => ?_⟩
        · exact Go_put (true) trivial ⟨rfl, rfl, rfl, rfl, rfl, rfl, rfl, rfl, rfl, trivial⟩ (fun _ h => h)
        refine ⟨fun h => ?_, fun h => ?_⟩
        · exact Go_put (true) trivial ⟨rfl, rfl, rfl, rfl, rfl, rfl, rfl, rfl, rfl, trivial⟩ (fun _ h => h)
        exact Go_put (decide ((D8 : Int) = 2)) trivial ⟨rfl, rfl, rfl, rfl, rfl, rfl, rfl, rfl, rfl, trivial⟩ (fun _ h => h)
      intro q _
      refine VC_sound tabOk 6 ?_
      refine ⟨fun h => ?_, fun h => ?_⟩
      · -- one more
        refine VC_sound tabOk 100 ?_
        show Go _ _ _ _
        refine Go_ops rfl (OpTo_mcall (cuR b bm cs) (rfC br A c ys) List.perm_append_comm rfl rfl rfl rfl rfl (by kernel_rfl) (fun w hb hm hio hsp k => cuR_register b bm cs s n w _ k) ?_)
        rintro _ _ ⟨rfl, q1, rfl⟩
        rw [hL.regE]
        refine VC_sound tabOk 100 ?_
        show Go _ _ _ _
        refine Go_ops rfl (OpTo_mcall (rfC br A c ys) (cuR b bm (regSt s n q1 cs)) List.perm_append_comm rfl rfl rfl rfl rfl (by kernel_rfl) (fun w hb hm hio hsp k => r13_register br A c ys s n (by omega) hL.rise w _ k) ?_)
        rintro _ _ ⟨rfl, A1, c1, zs, rfl, hz⟩
        have hL1 : LikeY (regSt s n q1 cs) zs := by
          rcases hz with ⟨h0, hp, hri⟩ | ⟨h0, rfl⟩
          · have hE := hL.regE s n
            rw [h0] at hE
            have hnew := regE_new hE
            rw [regSt, if_pos hE]
            exact hL.reg (x := ⟨s, n, 0⟩) (fun hh => hnew.1 ((hL.mem s).2 hh)) (by rw [← hL.clen]; exact hnew.2) hp hri
          · rw [regSt, if_neg (by rw [hL.regE]; exact h0)]; exact hL
        refine VC_sound tabOk 100 ?_
        exact Go_put (A1, c1, zs, regSt s n q1 cs) hL1 ⟨rfl, rfl, rfl, rfl, rfl, congrArg Value.bool (by simp), trivial⟩ (fun _ h => h)
      show Go _ (KI.code (Code.cond _ _ _) :: _) _ _
      refine Go_cut (σ := Bool) (fun q => [(0, .v (.slice (some ⟨ba, oa, none⟩) l.length c0)), (3, .v (ptrV b)), (4, .v (.pointer (some ⟨br, 0, none⟩))), (5, .v (.int .i64 i)), (7, .v (.string s)), (8, .v (.int .i64 n)), (9, .v (.bool true)), (54, .v (.int .u8 D8)), (75, .v (.bool q))]) (fun _ => rfC br A c ys ++ cuR b bm cs) (fun _ => True) ?_ ?_
      · refine VC_sound tabOk 100 ?_
        refine ⟨fun h => ?_, fun h => ?_⟩
        · exact Go_put (true) trivial ⟨rfl, rfl, rfl, rfl, rfl, rfl, rfl, rfl, rfl, trivial⟩ (fun _ h => h)
        exact Go_put (decide ((D8 : Int) = 4)) trivial ⟨rfl, rfl, rfl, rfl, rfl, rfl, rfl, rfl, rfl, trivial⟩ (fun _ h => h)
      intro q _
      refine VC_sound tabOk 6 ?_
      refine ⟨fun h => ?_, fun h => ?_⟩
      · -- one has a batch
        refine VC_sound tabOk 100 ?_
        by_cases hk : s ∈ ys.map CurV.name
        · obtain ⟨cs1, cs2, x, q2, y1, y2, rfl, rfl, rfl, hy1⟩ := hL.split hk
          show Go _ _ _ _
          refine Go_ops rfl (OpTo_mcall (cuR b bm (cs1 ++ (x, q2) :: cs2)) (rfC br A c (y1 ++ x :: y2)) List.perm_append_comm rfl rfl rfl rfl rfl (by kernel_rfl) (fun w hb hm hio hsp k => cuR_lift (f := 12) (if openE x n = 0 then ⟨x.name, x.last, n⟩ else x) (by split <;> rfl) (fun w0 hfs h => cu_open b bm q2 _ x.name x n hL.aget w0 hfs h) w _ k) ?_)
          rintro _ _ ⟨rfl, rfl⟩
          refine VC_sound tabOk 100 ?_
          show Go _ _ _ _
          refine Go_ops rfl (OpTo_mcall (rfC br A c (y1 ++ x :: y2)) (cuR b bm (cs1 ++ ((if openE x n = 0 then ⟨x.name, x.last, n⟩ else x), q2) :: cs2)) List.perm_append_comm rfl rfl rfl rfl rfl (by kernel_rfl) (fun w hb hm hio hsp k => r13_open br A c y1 y2 x x.name n (by omega) rfl hy1 w _ k) ?_)
          rintro _ _ ⟨rfl, A1, c1, rfl⟩
          refine VC_sound tabOk 100 ?_
          exact Go_put (A1, c1, y1 ++ (if openE x n = 0 then ⟨x.name, x.last, n⟩ else x) :: y2, cs1 ++ ((if openE x n = 0 then ⟨x.name, x.last, n⟩ else x), q2) :: cs2) (hL.set (by split <;> rfl)) ⟨rfl, rfl, rfl, rfl, rfl, congrArg Value.bool (by simp), trivial⟩ (fun _ h => h)
        · have hk1 : ∀ y ∈ ys, y.name ≠ s := fun y hy e => hk (List.mem_map.2 ⟨y, hy, e⟩)
          show Go _ _ _ _
          refine Go_ops rfl (OpTo_mcall (cuR b bm cs) (rfC br A c ys) List.perm_append_comm rfl rfl rfl rfl rfl (by kernel_rfl) (fun w hb hm hio hsp k => cuR_none (f := 12) (fun w0 hfs h => cu_open_none b bm _ s n (hL.agetN hk) w0 hfs h) w _ k) ?_)
          rintro _ _ ⟨rfl, rfl⟩
          refine VC_sound tabOk 100 ?_
          show Go _ _ _ _
          refine Go_ops rfl (OpTo_mcall (rfC br A c ys) (cuR b bm (cs)) List.perm_append_comm rfl rfl rfl rfl rfl (by kernel_rfl) (fun w hb hm hio hsp k => r13_open_no br A c ys s n (by omega) hk1 w _ k) ?_)
          rintro _ _ ⟨rfl, rfl⟩
          refine VC_sound tabOk 100 ?_
          exact Go_put (A, c, ys, cs) hL ⟨rfl, rfl, rfl, rfl, rfl, rfl, trivial⟩ (fun _ h => h)
      show Go _ (KI.code (Code.cond _ _ _) :: _) _ _
      refine Go_cut (σ := Bool) (fun q => [(0, .v (.slice (some ⟨ba, oa, none⟩) l.length c0)), (3, .v (ptrV b)), (4, .v (.pointer (some ⟨br, 0, none⟩))), (5, .v (.int .i64 i)), (7, .v (.string s)), (8, .v (.int .i64 n)), (9, .v (.bool true)), (54, .v (.int .u8 D8)), (87, .v (.bool q))]) (fun _ => rfC br A c ys ++ cuR b bm cs) (fun _ => True) ?_ ?_
      · refine VC_sound tabOk 100 ?_
        refine ⟨fun h => ?_, fun h => ?_⟩
        · exact Go_put (true) trivial ⟨rfl, rfl, rfl, rfl, rfl, rfl, rfl, rfl, rfl, trivial⟩ (fun _ h => h)
        exact Go_put (decide ((D8 : Int) = 6)) trivial ⟨rfl, rfl, rfl, rfl, rfl, rfl, rfl, rfl, rfl, trivial⟩ (fun _ h => h)
      intro q _
      refine VC_sound tabOk 100 ?_
      refine ⟨fun h => ?_, fun h => ?_⟩
      · -- a batch is finished
        refine VC_sound tabOk 100 ?_
        by_cases hk : s ∈ ys.map CurV.name
        · obtain ⟨cs1, cs2, x, q2, y1, y2, rfl, rfl, rfl, hy1⟩ := hL.split hk
          by_cases h0 : x.opn = 0
          · refine Go_ops rfl (OpTo_mcall (cuR b bm (cs1 ++ (x, q2) :: cs2)) (rfC br A c (y1 ++ x :: y2)) List.perm_append_comm rfl rfl rfl rfl rfl (by kernel_rfl) (fun w hb hm hio hsp k => cuR_lift (f := 14) (V := .tuple #[.int .i64 0, .int .i64 7]) x rfl (fun w0 hfs h => by have := cu_finish b bm q2 _ x.name x hL.aget w0 hfs h; rw [if_pos h0, if_pos h0] at this; exact this) w _ k) ?_)
            rintro _ _ ⟨rfl, rfl⟩
            refine VC_sound tabOk 100 ?_
            show Go _ _ _ _
            refine Go_ops rfl (OpTo_mcall (rfC br A c (y1 ++ x :: y2)) (cuR b bm (cs1 ++ (x, q2) :: cs2)) List.perm_append_comm rfl rfl rfl rfl rfl (by kernel_rfl) (fun w hb hm hio hsp k => r13_finish br A c y1 y2 x x.name (by omega) rfl hy1 w _ k) ?_)
            rw [if_pos h0, if_pos h0]
            rintro _ _ ⟨rfl, A1, c1, rfl⟩
            refine VC_sound tabOk 100 ?_
            refine ⟨fun _ => ?_, fun h => by first | (simp at h; done) | (simp at h; omega) | (simp_all; done)⟩
            exact Go_put (A1, c1, y1 ++ x :: y2, cs1 ++ (x, q2) :: cs2) (hL.set rfl) ⟨rfl, rfl, rfl, rfl, rfl, rfl, trivial⟩ (fun _ h => h)
          · refine Go_ops rfl (OpTo_mcall (cuR b bm (cs1 ++ (x, q2) :: cs2)) (rfC br A c (y1 ++ x :: y2)) List.perm_append_comm rfl rfl rfl rfl rfl (by kernel_rfl) (fun w hb hm hio hsp k => cuR_lift (f := 14) (V := .tuple #[.int .i64 x.opn, .int .i64 0]) (x := x) (q := q2) ⟨x.name, x.opn, 0⟩ rfl (fun w0 hfs h => by have := cu_finish b bm q2 _ x.name x hL.aget w0 hfs h; rw [if_neg h0, if_neg h0] at this; exact this) w _ k) ?_)
            rintro _ _ ⟨rfl, rfl⟩
            refine VC_sound tabOk 100 ?_
            show Go _ _ _ _
            refine Go_ops rfl (OpTo_mcall (rfC br A c (y1 ++ x :: y2)) (cuR b bm (cs1 ++ (⟨x.name, x.opn, 0⟩, q2) :: cs2)) List.perm_append_comm rfl rfl rfl rfl rfl (by kernel_rfl) (fun w hb hm hio hsp k => r13_finish br A c y1 y2 x x.name (by omega) rfl hy1 w _ k) ?_)
            rw [if_neg h0, if_neg h0]
            rintro _ _ ⟨rfl, A1, c1, rfl⟩
            refine VC_sound tabOk 100 ?_
            refine ⟨fun _ => ?_, fun h => by first | (simp at h; done) | (simp at h; omega) | (simp_all; done)⟩
            exact Go_put (A1, c1, y1 ++ ⟨x.name, x.opn, 0⟩ :: y2, cs1 ++ (⟨x.name, x.opn, 0⟩, q2) :: cs2) (hL.set rfl) ⟨rfl, rfl, rfl, rfl, rfl, congrArg Value.bool (by simp), trivial⟩ (fun _ h => h)
        · have hk1 : ∀ y ∈ ys, y.name ≠ s := fun y hy e => hk (List.mem_map.2 ⟨y, hy, e⟩)
          show Go _ _ _ _
          refine Go_ops rfl (OpTo_mcall (cuR b bm cs) (rfC br A c ys) List.perm_append_comm rfl rfl rfl rfl rfl (by kernel_rfl) (fun w hb hm hio hsp k => cuR_none (f := 14) (fun w0 hfs h => cu_finish_none b bm _ s (hL.agetN hk) w0 hfs h) w _ k) ?_)
          rintro _ _ ⟨rfl, rfl⟩
          refine VC_sound tabOk 100 ?_
          show Go _ _ _ _
          refine Go_ops rfl (OpTo_mcall (rfC br A c ys) (cuR b bm (cs)) List.perm_append_comm rfl rfl rfl rfl rfl (by kernel_rfl) (fun w hb hm hio hsp k => r13_finish_no br A c ys s (by omega) hk1 w _ k) ?_)
          rintro _ _ ⟨rfl, rfl⟩
          refine VC_sound tabOk 100 ?_
          refine ⟨fun _ => ?_, fun h => by first | (simp at h; done) | (simp at h; omega) | (simp_all; done)⟩
          exact Go_put (A, c, ys, cs) hL ⟨rfl, rfl, rfl, rfl, rfl, rfl, trivial⟩ (fun _ h => h)
      by_cases hk : s ∈ ys.map CurV.name
      · obtain ⟨cs1, cs2, x, q2, y1, y2, rfl, rfl, rfl, hy1⟩ := hL.split hk
        have e0 : (Go.RX.aget x.name (alOf (cs1 ++ (x, q2) :: cs2))).isSome = true := by rw [hL.aget]; rfl
        show Go _ _ _ _
        refine Go_ops rfl (OpTo_mcall (cuR b bm (cs1 ++ (x, q2) :: cs2)) (rfC br A c (y1 ++ x :: y2)) List.perm_append_comm rfl rfl rfl rfl rfl (by kernel_rfl) (fun w hb hm hio hsp k => cuR_unregister b bm _ x.name w _ k) ?_)
        rintro _ _ ⟨rfl, rfl⟩
        rw [if_pos e0]
        refine VC_sound tabOk 100 ?_
        show Go _ _ _ _
        refine Go_ops rfl (OpTo_mcall (rfC br A c (y1 ++ x :: y2)) (cuR b bm (delSt x.name (cs1 ++ (x, q2) :: cs2))) List.perm_append_comm rfl rfl rfl rfl rfl (by kernel_rfl) (fun w hb hm hio hsp k => r13_unregister_ok br A c y1 y2 x x.name (by omega) rfl hy1 w _ k) ?_)
        rintro _ _ ⟨rfl, A1, c1, rfl⟩
        refine VC_sound tabOk 100 ?_
        exact Go_put (A1, c1, y1 ++ y2, delSt x.name (cs1 ++ (x, q2) :: cs2)) hL.del ⟨rfl, rfl, rfl, rfl, rfl, rfl, trivial⟩ (fun _ h => h)
      · have hk1 : ∀ y ∈ ys, y.name ≠ s := fun y hy e => hk (List.mem_map.2 ⟨y, hy, e⟩)
        have e0 : ¬ (Go.RX.aget s (alOf cs)).isSome = true := by rw [hL.agetN hk]; simp
        have e1 : delSt s cs = cs := List.filter_eq_self.2 fun c hc => by
          have : ¬ s ∈ Go.Proofs.Ytmlaaddkdemmlaa.names cs := fun h => hk ((hL.mem s).1 h)
          simp only [Bool.not_eq_true', decide_eq_false_iff_not]
          intro e; exact this (e ▸ List.mem_map_of_mem (f := fun c : CurV × Nat => c.1.name) hc)
        show Go _ _ _ _
        refine Go_ops rfl (OpTo_mcall (cuR b bm cs) (rfC br A c ys) List.perm_append_comm rfl rfl rfl rfl rfl (by kernel_rfl) (fun w hb hm hio hsp k => cuR_unregister b bm cs s w _ k) ?_)
        rintro _ _ ⟨rfl, rfl⟩
        rw [if_neg e0, e1]
        refine VC_sound tabOk 100 ?_
        show Go _ _ _ _
        refine Go_ops rfl (OpTo_mcall (rfC br A c ys) (cuR b bm (cs)) List.perm_append_comm rfl rfl rfl rfl rfl (by kernel_rfl) (fun w hb hm hio hsp k => r13_unregister_no br A c ys s (by omega) hk1 w _ k) ?_)
        rintro _ _ ⟨rfl, rfl⟩
        refine VC_sound tabOk 100 ?_
        exact Go_put (A, c, ys, cs) hL ⟨rfl, rfl, rfl, rfl, rfl, rfl, trivial⟩ (fun _ h => h)
    rintro ⟨A2, c2, ys2, cs2⟩ hL2
    dsimp only at hL2 ⊢
    clear hL hlen
    have hlen2 := hL2.len
    by_cases hk : s ∈ ys2.map CurV.name
    · have hf := fI_in.2 hk
      obtain ⟨cs3, cs4, x, q2, y1, y2, rfl, rfl, rfl, hy1⟩ := hL2.split hk
      refine VC_sound tabOk 100 ?_
      show Go _ _ _ _
      refine Go_ops rfl (OpTo_mcall (cuR b bm (cs3 ++ (x, q2) :: cs4)) (rfC br A2 c2 (y1 ++ x :: y2)) List.perm_append_comm rfl rfl rfl rfl rfl (by kernel_rfl) (fun w hb hm hio hsp k => cuR_lift (f := 13) x rfl (fun w0 hfs h => cu_get b bm q2 _ x.name x hL2.aget w0 hfs h) w _ k) ?_)
      rintro _ _ ⟨rfl, rfl⟩
      refine VC_sound tabOk 100 ?_
      intro b14 _
      (repeat (first | refine Or.inl ⟨rfl, rfl, ?_⟩ | refine Or.inl ⟨rfl, ?_⟩ | refine Or.inr ?_))
      refine ⟨fun h => by first | (simp at h; done) | (simp at h; omega) | (simp_all; done), fun _ => ?_⟩
      refine Go_res (rfC br A2 c2 (y1 ++ x :: y2) ++ cuR b bm (cs3 ++ (x, q2) :: cs4)) (fun _ h => (Mod.drop (a := [_]) h).permRs List.perm_append_comm) ?_
      refine Go_ops rfl (OpTo_pcall (v := .int .i64 (fI x.name (y1 ++ x :: y2))) rfl rfl rfl rfl rfl (by kernel_rfl) (fun w hm _ => r13_find br A2 c2 (y1 ++ x :: y2) x.name (by omega) w (hm.blk_at (i := 0) rfl) (hm.own_rd (i := 1) rfl)) ?_)
      refine VC_sound tabOk 100 ?_
      refine ⟨fun h => by simp [hf] at h, fun _ => ?_⟩
      show Go _ _ _ _
      refine Go_ops rfl (OpTo_mcall (rfC br A2 c2 (y1 ++ x :: y2) ++ cuR b bm (cs3 ++ (x, q2) :: cs4)) [] (List.Perm.of_eq (List.append_nil _).symm) rfl rfl rfl rfl rfl (by kernel_rfl) (fun w hb hm hio hsp k => l13_like b bm br A2 c2 _ _ hL2 w _ k) ?_)
      rintro _ _ ⟨rfl, rfl⟩
      refine VC_sound tabOk 100 ?_
      refine ⟨fun h => by first | (simp at h; done) | (simp at h; omega) | (simp_all; done), fun _ => ?_⟩
      refine ⟨_, wrap_i64 (n := (i : Int) + 1) (by omega) (by omega), ?_⟩
      exact Go_fin (i + 1, A2, c2, y1 ++ x :: y2, cs3 ++ (x, q2) :: cs4) ⟨by dsimp only; omega, hL2⟩ (by dsimp only; omega) ⟨rfl, rfl, rfl, rfl, trivial⟩ (fun _ h => h.permRs (List.Perm.of_eq (List.append_nil _)))
    · have hf : ¬ 0 ≤ fI s ys2 := fun h => hk (fI_in.1 h)
      refine VC_sound tabOk 100 ?_
      show Go _ _ _ _
      refine Go_ops rfl (OpTo_mcall (cuR b bm cs2) (rfC br A2 c2 ys2) List.perm_append_comm rfl rfl rfl rfl rfl (by kernel_rfl) (fun w hb hm hio hsp k => cuR_none (f := 13) (fun w0 hfs h => cu_get_none b bm _ s (hL2.agetN hk) w0 hfs h) w _ k) ?_)
      rintro _ _ ⟨rfl, rfl⟩
      refine VC_sound tabOk 100 ?_
      intro b14 _
      (repeat (first | refine Or.inl ⟨rfl, rfl, ?_⟩ | refine Or.inl ⟨rfl, ?_⟩ | refine Or.inr ?_))
      refine ⟨fun h => by first | (simp at h; done) | (simp at h; omega) | (simp_all; done), fun _ => ?_⟩
      refine Go_res (rfC br A2 c2 ys2 ++ cuR b bm cs2) (fun _ h => (Mod.drop (a := [_]) h).permRs List.perm_append_comm) ?_
      refine Go_ops rfl (OpTo_pcall (v := .int .i64 (fI s ys2)) rfl rfl rfl rfl rfl (by kernel_rfl) (fun w hm _ => r13_find br A2 c2 ys2 s (by omega) w (hm.blk_at (i := 0) rfl) (hm.own_rd (i := 1) rfl)) ?_)
      refine VC_sound tabOk 100 ?_
      refine ⟨fun h => by simp [hf] at h, fun _ => ?_⟩
      show Go _ _ _ _
      refine Go_ops rfl (OpTo_mcall (rfC br A2 c2 ys2 ++ cuR b bm cs2) [] (List.Perm.of_eq (List.append_nil _).symm) rfl rfl rfl rfl rfl (by kernel_rfl) (fun w hb hm hio hsp k => l13_like b bm br A2 c2 _ _ hL2 w _ k) ?_)
      rintro _ _ ⟨rfl, rfl⟩
      refine VC_sound tabOk 100 ?_
      refine ⟨fun h => by first | (simp at h; done) | (simp at h; omega) | (simp_all; done), fun _ => ?_⟩
      refine ⟨_, wrap_i64 (n := (i : Int) + 1) (by omega) (by omega), ?_⟩
      exact Go_fin (i + 1, A2, c2, ys2, cs2) ⟨by dsimp only; omega, hL2⟩ (by dsimp only; omega) ⟨rfl, rfl, rfl, rfl, trivial⟩ (fun _ h => h.permRs (List.Perm.of_eq (List.append_nil _)))
  refine VC_sound tabOk 100 ?_
  refine ⟨fun h => by first | (simp at h; done) | (simp at h; omega) | (simp_all; done), fun _ => ?_⟩
  rfl
end Go.Proofs.Ytmlaaddkdemmlaa
