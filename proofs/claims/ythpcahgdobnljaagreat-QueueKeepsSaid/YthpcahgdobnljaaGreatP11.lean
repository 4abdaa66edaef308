/- What the reference of layer 11 does. -/
import Derived.Test.YthpcahgdobnljaaGreatQJ
import Derived.Test.YthpcahgdobnljaaGreatTick
import Derived.Test.YthpcahgdobnljaaGreatSnapLaw
import Derived.Test.YthpcahgdobnljaaGreatRxB
set_option maxRecDepth 100000
set_option autoImplicit false
set_option linter.unusedVariables false
set_option linter.unusedSimpArgs false
namespace Go.Proofs.YthpcahgdobnljaaGreat.Tk
open Go.RX Go Go.RowKit


abbrev rfT (G : QJ) (A : Option Addr) (c : Nat) (us : List TickM) (last : Int) : List Res := [.blk G.b 100 [G.v0, G.v1, G.v2, G.v3, G.v4, .slice A us.length c, .int .i64 last, G.v7, G.v8, G.v9], own encT 4 44 A c us, ro (tkBag us)]
abbrev snR (S : Option Addr) (op : List Int) : Res := ro [(S, op.flatMap (encI .i64))]

set_option maxHeartbeats 4000000 in
theorem r11_add (G : QJ) (A : Option Addr) (c : Nat) (us : List TickM) (last mx : Int) (S : Option Addr) (d : Nat) (op : List Int) (q : Int) (w0 : World) (hfs : List PH) (hm : Mod hfs (rfT G A c us last ++ [snR S op]) w0)
    (hn2 : op.length ≤ 1000000) (hf : TkFit us) (hmx : 0 ≤ mx ∧ mx ≤ 9223372036854775807) (hl : 0 ≤ last ∧ last ≤ 1000000) (hts : us.length ≤ 1000000) :
    Calls Tryz.prog 54 #[.pointer (some ⟨G.b, 5, none⟩), snV mx S op.length d, .int .i64 q] w0 fun e w' => ∃ v Rs', e = .returned v ∧ ((tkAdd us mx op q ≠ 0 ∧ v = .tuple #[mkT zeroT, .int .i64 (tkAdd us mx op q)] ∧ Rs' = rfT G A c us last) ∨ (tkAdd us mx op q = 0 ∧ v = .tuple #[mkT ⟨last + 1, mx, S, d, op, q⟩, .int .i64 0] ∧ ∃ A' c', Rs' = rfT G A' c' (us ++ [⟨last + 1, mx, S, d, op, q⟩]) (last + 1))) ∧ Mod hfs Rs' w' ∧ Oth w0 w' := by
  have hA : us ≠ [] → ∃ b o, A = some ⟨b, o, none⟩ := fun h => hm.own_some (i := 1) rfl h
  refine enterN (tab := tab) Tryz.func54 rfl Tryz.ntmps54 rfl (args := [_, _, _]) rfl hm ?_
  refine VC_sound tabOk 100 ?_
  intro b4 _ b6 _
  (repeat (first | refine Or.inl ⟨rfl, rfl, ?_⟩ | refine Or.inl ⟨rfl, ?_⟩ | refine Or.inr ?_))
  refine ⟨fun h1 => ?_, fun h1 => ?_⟩
  · (repeat (first | refine Or.inl ⟨rfl, rfl, ?_⟩ | refine Or.inl ⟨rfl, ?_⟩ | refine Or.inr ?_))
    have e : tkAdd us mx op q = 8 := by have := of_decide_eq_true h1; simp only [tkAdd]; rw [if_pos (by omega)]
    exact ⟨_, .inl ⟨by rw [e]; decide, by rw [e]; rfl, rfl⟩, fun _ _ h => h.sel [2, 3, 4] rfl⟩
  have hlt : us.length < 64 := by have := of_decide_eq_false h1; omega
  (repeat (first | refine Or.inl ⟨rfl, rfl, ?_⟩ | refine Or.inl ⟨rfl, ?_⟩ | refine Or.inr ?_))
  refine Go_ops rfl (OpTo_pcall (v := .bool (snRight mx op)) rfl rfl rfl rfl rfl (by kernel_rfl) (fun w hm _ => r05_right mx S d op w (hm.ro_rd (i := 5) rfl (by simp)) (by omega)) ?_)
  refine VC_sound tabOk 13 ?_
  refine ⟨fun h2 => ?_, fun h2 => ?_⟩
  · (repeat (first | refine Or.inl ⟨rfl, rfl, ?_⟩ | refine Or.inl ⟨rfl, ?_⟩ | refine Or.inr ?_))
    have e : tkAdd us mx op q = 1 := by simp at h2; simp only [tkAdd, tkFollows, h2, Bool.false_and]; rw [if_neg (by omega)]; rfl
    exact ⟨_, .inl ⟨by rw [e]; decide, by rw [e]; rfl, rfl⟩, fun _ _ h => h.sel [2, 3, 4] rfl⟩
  have hR : snRight mx op = true := by simpa using h2
  (repeat (first | refine Or.inl ⟨rfl, rfl, ?_⟩ | refine Or.inl ⟨rfl, ?_⟩ | refine Or.inr ?_))
  show Go _ (KI.code (Code.cond _ _ _) :: _) _ _
  refine Go_cut (σ := Unit) (fun _ => [(0, .v (.pointer (some ⟨G.b, 5, none⟩))), (2, .v (.int .i64 q)), (4, .v (.pointer (some ⟨b4, 0, none⟩))), (6, .v (.pointer (some ⟨b6, 0, none⟩)))]) (fun _ => [.blk b6 44 (encT zeroT), .blk b4 42 [.int .i64 mx, .slice S op.length d], .blk G.b 100 [G.v0, G.v1, G.v2, G.v3, G.v4, .slice A us.length c, .int .i64 last, G.v7, G.v8, G.v9], own encT 4 44 A c us, ro (tkBag us), snR S op]) (fun _ => tkAdd us mx op q = 0) ?_ ?_
  · refine VC_sound tabOk 100 ?_
    refine ⟨fun h3 => ?_, fun h3 => ?_⟩
    · have hpos : 0 < us.length := by have := of_decide_eq_true h3; omega
      obtain ⟨x, hgx⟩ : ∃ x, us[us.length - 1]? = some x := ⟨_, List.getElem?_eq_getElem (by omega)⟩
      have hlast : us.getLast? = some x := by rw [List.getLast?_eq_getElem?]; exact hgx
      have hx := hf x (List.mem_of_getElem? hgx)
      have hidx : ((us.length : Int) - 1).toNat = us.length - 1 := by omega
      obtain ⟨ba, oa, rfl⟩ := hA (ne_nil_of_lt hpos)
      show Go _ _ _ _
      refine Go_any mixed [13] [(0, false), (1, false), (2, false), (4, false), (5, false), (6, false), (3, false), (7, false), (8, false), (9, false), (10, false), (11, false), (12, true), (13, true)] rfl (by kernel_rfl) (by kernel_rfl) [.blk G.b 100 [G.v0, G.v1, G.v2, G.v3, G.v4, .slice (some ⟨ba, oa, none⟩) us.length c, .int .i64 last, G.v7, G.v8, G.v9]] (fun w => RdW w (some ⟨ba, oa, none⟩) (us.flatMap encT)) (fun w w' hk h => h.old hk) (fun w hm _ => ⟨Holds.of_idx [2] hm, by exact Mod.own_rd (k := 4) (T := 44) (c := c) (i := 3) hm rfl⟩) ?_
      refine VC_sound tabOk 100 ?_
      (repeat (first | refine Or.inl ⟨rfl, rfl, ?_⟩ | refine Or.inl ⟨rfl, ?_⟩ | refine Or.inr ?_))
      refine ⟨_, wrap_i64 (n := (us.length : Int) - 1) (by omega) (by omega), ?_⟩
      refine ⟨⟨by omega, by omega⟩, ?_⟩
      (repeat (first | refine Or.inl ⟨rfl, rfl, ?_⟩ | refine Or.inl ⟨rfl, ?_⟩ | refine Or.inr ?_))
      refine Go_first (v := mkT x) rfl rfl rfl rfl (fun w _ hw => rxLoadRow tabOk rfl encT_is rfl (fun h => by first | rfl | cases h) hw hgx (by rw [show us.length - 1 = ((us.length : Int) - 1).toNat from hidx.symm]; rfl) rfl) ?_
      refine VC_sound tabOk 100 ?_
      intro b8 _
      (repeat (first | refine Or.inl ⟨rfl, rfl, ?_⟩ | refine Or.inl ⟨rfl, ?_⟩ | refine Or.inr ?_))
      refine Go_ops rfl (OpTo_pcall (v := .bool (snCovers mx op x.mx x.op)) rfl rfl rfl rfl rfl (by kernel_rfl) (fun w hm _ => r05_covers mx x.mx S x.A d x.c op x.op w (hm.ro_rd (i := 6) rfl (by simp)) (hm.ro_rd (i := 5) rfl (List.mem_map.2 ⟨x, List.mem_of_getElem? hgx, rfl⟩)) (by omega) (by have := hx.2; omega) (by omega) hx.1) ?_)
      refine VC_sound tabOk 100 ?_
      have no : (snCovers mx op x.mx x.op && decide (x.t ≤ q)) = false → tkAdd us mx op q = 1 := fun h => by
        simp only [tkAdd, tkFollows, hlast, h, Bool.and_false]; rw [if_neg (by omega)]; rfl
      refine ⟨fun h4 => ?_, fun h4 => ?_⟩
      · have e := no (by simp at h4; simp [h4])
        (repeat (first | refine Or.inl ⟨rfl, rfl, ?_⟩ | refine Or.inl ⟨rfl, ?_⟩ | refine Or.inr ?_))
        exact ⟨_, .inl ⟨by rw [e]; decide, by rw [e]; rfl, rfl⟩, fun _ _ h => h.sel [3, 4, 5] rfl⟩
      (repeat (first | refine Or.inl ⟨rfl, rfl, ?_⟩ | refine Or.inl ⟨rfl, ?_⟩ | refine Or.inr ?_))
      refine ⟨fun h5 => ?_, fun h5 => ?_⟩
      · have e := no (by have := of_decide_eq_true h5; simp; omega)
        (repeat (first | refine Or.inl ⟨rfl, rfl, ?_⟩ | refine Or.inl ⟨rfl, ?_⟩ | refine Or.inr ?_))
        exact ⟨_, .inl ⟨by rw [e]; decide, by rw [e]; rfl, rfl⟩, fun _ _ h => h.sel [3, 4, 5] rfl⟩
      have e : tkAdd us mx op q = 0 := by
        have h5' := of_decide_eq_false h5
        simp at h4
        simp only [tkAdd, tkFollows, hlast, hR, h4]; rw [if_neg (by omega)]; simp; omega
      exact Go_put () e ⟨rfl, rfl, rfl, rfl, trivial⟩ (fun _ h => h.sel [1, 2, 3, 4, 5, 6] rfl)
    · have h0 : us = [] := by have := of_decide_eq_false h3; exact List.length_eq_zero_iff.1 (by omega)
      have e : tkAdd us mx op q = 0 := by subst h0; simp [tkAdd, tkFollows, hR]
      exact Go_put () e ⟨rfl, rfl, rfl, rfl, trivial⟩ (fun _ h => h)
  rintro _ he
  refine VC_sound tabOk 100 ?_
  (repeat (first | refine Or.inl ⟨rfl, rfl, ?_⟩ | refine Or.inl ⟨rfl, ?_⟩ | refine Or.inr ?_))
  refine ⟨_, wrap_i64 (n := last + 1) (by omega) (by omega), ?_⟩
  (repeat (first | refine Or.inl ⟨rfl, rfl, ?_⟩ | refine Or.inl ⟨rfl, ?_⟩ | refine Or.inr ?_))
  show Go _ _ _ _
  refine Go_any mixed [8] [(0, false), (1, false), (2, false), (5, false), (3, false), (4, false), (6, false), (7, true), (8, true)] rfl (by kernel_rfl) (by kernel_rfl) [.blk b4 42 [.int .i64 mx, .slice S op.length d], .blk G.b 100 [G.v0, G.v1, G.v2, G.v3, G.v4, .slice A us.length c, .int .i64 (last + 1), G.v7, G.v8, G.v9]] (fun _ => True) (fun _ _ _ h => h) (fun w hm _ => ⟨Holds.of_idx [1, 2] hm, trivial⟩) ?_
  refine VC_sound tabOk 100 ?_
  (repeat (first | refine Or.inl ⟨rfl, rfl, ?_⟩ | refine Or.inl ⟨rfl, ?_⟩ | refine Or.inr ?_))
  (repeat (first | refine Or.inl ⟨rfl, rfl, ?_⟩ | refine Or.inl ⟨rfl, ?_⟩ | refine Or.inr ?_))
  intro b9 _
  (repeat (first | refine Or.inl ⟨rfl, rfl, ?_⟩ | refine Or.inl ⟨rfl, ?_⟩ | refine Or.inr ?_))
  refine Go_res (own encT 4 44 none 0 [] :: .blk b9 44 (encT ⟨last + 1, mx, S, d, op, q⟩) :: .blk b6 44 (encT zeroT) :: .blk b4 42 [.int .i64 mx, .slice S op.length d] :: .blk G.b 100 [G.v0, G.v1, G.v2, G.v3, G.v4, .slice A us.length c, .int .i64 (last + 1), G.v7, G.v8, G.v9] :: own encT 4 44 A c us :: ro (tkBag us) :: [snR S op]) (fun w h => h.own_nil none) ?_
  show Go _ _ _ _
  refine Go_ops rfl (OpTo_append tabOk encT_is (xs := []) (ys := us) (i := 0) rfl rfl rfl rfl rfl rfl rfl rfl rfl rfl rfl (fun w hm _ => hm.own_rd (i := 5) rfl) (by simp; omega) (by simp; omega) (fun A2 c2 => ?_))
  rw [List.nil_append]
  refine VC_sound tabOk 100 ?_
  (repeat (first | refine Or.inl ⟨rfl, rfl, ?_⟩ | refine Or.inl ⟨rfl, ?_⟩ | refine Or.inr ?_))
  intro b75 _
  show Go _ _ _ _
  refine Go_ops rfl (OpTo_append tabOk encT_is (ys := [⟨last + 1, mx, S, d, op, q⟩]) (i := 1) rfl rfl rfl rfl rfl rfl rfl rfl rfl (by simp) rfl (fun w hm _ => hm.blk_rd (i := 0) rfl) (by simp; omega) (by simp; omega) (fun A3 c3 => ?_))
  refine VC_sound tabOk 100 ?_
  (repeat (first | refine Or.inl ⟨rfl, rfl, ?_⟩ | refine Or.inl ⟨rfl, ?_⟩ | refine Or.inr ?_))
  (repeat (first | refine Or.inl ⟨rfl, rfl, ?_⟩ | refine Or.inl ⟨rfl, ?_⟩ | refine Or.inr ?_))
  refine ⟨_, .inr ⟨he, rfl, A3, c3, rfl⟩, fun hfs w h => ?_⟩
  have h := (h.sel [8, 7, 5, 1] rfl).ro_join
  have h := h.ro_sub (i := 0) (tkBag (us ++ [⟨last + 1, mx, S, d, op, q⟩])) rfl (by
    intro p hp
    simp only [tkBag, List.map_append, List.map_cons, List.map_nil, List.mem_append, List.mem_cons, List.not_mem_nil, or_false] at hp ⊢
    rcases hp with hp | hp
    · exact .inr hp
    · exact .inl hp)
  have h := h.sel [1, 2, 0] rfl
  rw [show 0 + us.length + 1 = (us ++ [(⟨last + 1, mx, S, d, op, q⟩ : TickM)]).length by simp] at h
  exact h

def fndV (p : TickM → Bool) (us : List TickM) : Value := match us.find? p with
  | some x => .tuple #[mkT x, .bool true]
  | none => .tuple #[mkT zeroT, .bool false]

set_option maxHeartbeats 2000000 in
theorem r11_get (G : QJ) (A : Option Addr) (c : Nat) (us : List TickM) (last q : Int) (w0 : World) (hb : w0.heap[G.b]? = some (.cells #[G.v0, G.v1, G.v2, G.v3, G.v4, .slice A us.length c, .int .i64 last, G.v7, G.v8, G.v9] 100 (0, 0))) (hA : RdW w0 A (us.flatMap encT)) (hn : us.length ≤ 1000000) :
    Calls Tryz.prog 45 #[.pointer (some ⟨G.b, 5, none⟩), .int .i64 q] w0 fun e w' => e = .returned (fndV (tkIs q) us) ∧ BelowD w0.heap.size w0 w' := by
  refine enterP (tab := tab) Tryz.func45 rfl Tryz.ntmps45 rfl (args := [_, _]) rfl ?_
  refine VC_sound tabOk 100 ?_
  intro b4 _
  refine Go_loop (σ := Nat) (fun i => [(0, .v (.pointer (some ⟨G.b, 5, none⟩))), (1, .v (.int .i64 q)), (4, .v (.pointer (some ⟨b4, 0, none⟩))), (6, .v (.int .i64 i))]) (fun _ => [.blk b4 44 (encT zeroT)]) (fun i => i ≤ us.length ∧ ∀ z ∈ us.take i, tkIs q z = false) (fun i => us.length - i) 0 ⟨Nat.zero_le _, fun _ h => by simp at h⟩ ⟨rfl, rfl, rfl, rfl, trivial⟩ (fun _ h => h) ?_
  rintro i ⟨hi, hno⟩
  dsimp only at hi hno ⊢
  refine VC_sound tabOk 100 ?_
  refine Or.inr ?_
  refine Go_ops rfl (OpTo_loadBlk tabOk (cs := [G.v0, G.v1, G.v2, G.v3, G.v4, .slice A us.length c, .int .i64 last, G.v7, G.v8, G.v9]) (.slice A us.length c) rfl rfl rfl (fun w hm _ => hm.block_old hb) rfl ?_)
  by_cases hlt : i < us.length
  · obtain ⟨ba, oa, rfl⟩ := RdW.some encT_is hA (ne_nil_of_lt hlt)
    obtain ⟨x, hgx⟩ : ∃ x, us[i]? = some x := ⟨_, List.getElem?_eq_getElem hlt⟩
    have hxe : us[i] = x := (List.getElem?_eq_some_iff.1 hgx).2
    refine VC_sound tabOk 100 ?_
    refine ⟨fun _ => ?_, fun h => by first | (simp at h; done) | (simp at h; omega) | (simp_all; done)⟩
    refine Or.inr ?_
    refine Go_ops rfl (OpTo_loadBlk tabOk (cs := [G.v0, G.v1, G.v2, G.v3, G.v4, .slice (some ⟨ba, oa, none⟩) us.length c, .int .i64 last, G.v7, G.v8, G.v9]) (.slice (some ⟨ba, oa, none⟩) us.length c) rfl rfl rfl (fun w hm _ => hm.block_old hb) rfl ?_)
    refine VC_sound tabOk 100 ?_
    refine ⟨⟨by omega, by omega⟩, ?_⟩
    refine Or.inr ?_
    refine Go_ops rfl (OpTo_loadPart tabOk encT_is (n := i) (j := 0) (.int .i64 x.n) rfl rfl rfl (fun w hm _ => hA.mod hm) hgx rfl (by simp only [addA]; rfl) ?_)
    refine VC_sound tabOk 100 ?_
    refine ⟨fun h => ?_, fun h => ?_⟩
    · refine Or.inr ?_
      refine Go_ops rfl (OpTo_loadBlk tabOk (cs := [G.v0, G.v1, G.v2, G.v3, G.v4, .slice (some ⟨ba, oa, none⟩) us.length c, .int .i64 last, G.v7, G.v8, G.v9]) (.slice (some ⟨ba, oa, none⟩) us.length c) rfl rfl rfl (fun w hm _ => hm.block_old hb) rfl ?_)
      refine VC_sound tabOk 100 ?_
      refine ⟨⟨by omega, by omega⟩, ?_⟩
      refine Or.inr ?_
      refine Go_ops rfl (OpTo_loadRow tabOk encT_is (mkT x) rfl rfl rfl rfl rfl (fun h => by first | rfl | cases h) (fun w hm _ => hA.mod hm) hgx (by simp only [addA]; rfl) ?_)
      refine VC_sound tabOk 100 ?_
      (repeat (first | refine Or.inl ⟨rfl, rfl, ?_⟩ | refine Or.inl ⟨rfl, ?_⟩ | refine Or.inr ?_))
      have hf : us.find? (tkIs q) = some x := hxe ▸ find_of hlt (by rw [hxe]; exact h) hno
      simp only [fndV, hf]
      rfl
    · refine ⟨_, wrap_i64 (n := (i : Int) + 1) (by omega) (by omega), ?_⟩
      refine Go_fin (i + 1) ⟨by omega, fun z hz => ?_⟩ (by omega) ⟨rfl, rfl, rfl, rfl, trivial⟩ (fun _ h => h)
      rw [List.take_add_one, hgx] at hz
      rcases List.mem_append.1 hz with hz | hz
      · exact hno z hz
      · simp at hz; subst hz; exact h
  · refine VC_sound tabOk 100 ?_
    refine ⟨fun h => by first | (simp at h; done) | (simp at h; omega) | (simp_all; done), fun _ => ?_⟩
    (repeat (first | refine Or.inl ⟨rfl, rfl, ?_⟩ | refine Or.inl ⟨rfl, ?_⟩ | refine Or.inr ?_))
    have hf : us.find? (tkIs q) = none := find_none (by rw [List.take_of_length_le (by omega)] at hno; exact hno)
    simp only [fndV, hf]
    rfl

set_option maxHeartbeats 2000000 in
theorem r11_after (G : QJ) (A : Option Addr) (c : Nat) (us : List TickM) (last q : Int) (w0 : World) (hb : w0.heap[G.b]? = some (.cells #[G.v0, G.v1, G.v2, G.v3, G.v4, .slice A us.length c, .int .i64 last, G.v7, G.v8, G.v9] 100 (0, 0))) (hA : RdW w0 A (us.flatMap encT)) (hn : us.length ≤ 1000000) :
    Calls Tryz.prog 169 #[.pointer (some ⟨G.b, 5, none⟩), .int .i64 q] w0 fun e w' => e = .returned (fndV (tkAft q) us) ∧ BelowD w0.heap.size w0 w' := by
  refine enterP (tab := tab) Tryz.func169 rfl Tryz.ntmps169 rfl (args := [_, _]) rfl ?_
  refine VC_sound tabOk 100 ?_
  intro b4 _
  refine Go_loop (σ := Nat) (fun i => [(0, .v (.pointer (some ⟨G.b, 5, none⟩))), (1, .v (.int .i64 q)), (4, .v (.pointer (some ⟨b4, 0, none⟩))), (6, .v (.int .i64 i))]) (fun _ => [.blk b4 44 (encT zeroT)]) (fun i => i ≤ us.length ∧ ∀ z ∈ us.take i, tkAft q z = false) (fun i => us.length - i) 0 ⟨Nat.zero_le _, fun _ h => by simp at h⟩ ⟨rfl, rfl, rfl, rfl, trivial⟩ (fun _ h => h) ?_
  rintro i ⟨hi, hno⟩
  dsimp only at hi hno ⊢
  refine VC_sound tabOk 100 ?_
  refine Or.inr ?_
  refine Go_ops rfl (OpTo_loadBlk tabOk (cs := [G.v0, G.v1, G.v2, G.v3, G.v4, .slice A us.length c, .int .i64 last, G.v7, G.v8, G.v9]) (.slice A us.length c) rfl rfl rfl (fun w hm _ => hm.block_old hb) rfl ?_)
  by_cases hlt : i < us.length
  · obtain ⟨ba, oa, rfl⟩ := RdW.some encT_is hA (ne_nil_of_lt hlt)
    obtain ⟨x, hgx⟩ : ∃ x, us[i]? = some x := ⟨_, List.getElem?_eq_getElem hlt⟩
    have hxe : us[i] = x := (List.getElem?_eq_some_iff.1 hgx).2
    refine VC_sound tabOk 100 ?_
    refine ⟨fun _ => ?_, fun h => by first | (simp at h; done) | (simp at h; omega) | (simp_all; done)⟩
    refine Or.inr ?_
    refine Go_ops rfl (OpTo_loadBlk tabOk (cs := [G.v0, G.v1, G.v2, G.v3, G.v4, .slice (some ⟨ba, oa, none⟩) us.length c, .int .i64 last, G.v7, G.v8, G.v9]) (.slice (some ⟨ba, oa, none⟩) us.length c) rfl rfl rfl (fun w hm _ => hm.block_old hb) rfl ?_)
    refine VC_sound tabOk 100 ?_
    refine ⟨⟨by omega, by omega⟩, ?_⟩
    refine Or.inr ?_
    refine Go_ops rfl (OpTo_loadPart tabOk encT_is (n := i) (j := 0) (.int .i64 x.n) rfl rfl rfl (fun w hm _ => hA.mod hm) hgx rfl (by simp only [addA]; rfl) ?_)
    refine VC_sound tabOk 100 ?_
    refine ⟨fun h => ?_, fun h => ?_⟩
    · refine Or.inr ?_
      refine Go_ops rfl (OpTo_loadBlk tabOk (cs := [G.v0, G.v1, G.v2, G.v3, G.v4, .slice (some ⟨ba, oa, none⟩) us.length c, .int .i64 last, G.v7, G.v8, G.v9]) (.slice (some ⟨ba, oa, none⟩) us.length c) rfl rfl rfl (fun w hm _ => hm.block_old hb) rfl ?_)
      refine VC_sound tabOk 100 ?_
      refine ⟨⟨by omega, by omega⟩, ?_⟩
      refine Or.inr ?_
      refine Go_ops rfl (OpTo_loadRow tabOk encT_is (mkT x) rfl rfl rfl rfl rfl (fun h => by first | rfl | cases h) (fun w hm _ => hA.mod hm) hgx (by simp only [addA]; rfl) ?_)
      refine VC_sound tabOk 100 ?_
      (repeat (first | refine Or.inl ⟨rfl, rfl, ?_⟩ | refine Or.inl ⟨rfl, ?_⟩ | refine Or.inr ?_))
      have hf : us.find? (tkAft q) = some x := hxe ▸ find_of hlt (by rw [hxe]; exact h) hno
      simp only [fndV, hf]
      rfl
    · refine ⟨_, wrap_i64 (n := (i : Int) + 1) (by omega) (by omega), ?_⟩
      refine Go_fin (i + 1) ⟨by omega, fun z hz => ?_⟩ (by omega) ⟨rfl, rfl, rfl, rfl, trivial⟩ (fun _ h => h)
      rw [List.take_add_one, hgx] at hz
      rcases List.mem_append.1 hz with hz | hz
      · exact hno z hz
      · simp at hz; subst hz; exact h
  · refine VC_sound tabOk 100 ?_
    refine ⟨fun h => by first | (simp at h; done) | (simp at h; omega) | (simp_all; done), fun _ => ?_⟩
    (repeat (first | refine Or.inl ⟨rfl, rfl, ?_⟩ | refine Or.inl ⟨rfl, ?_⟩ | refine Or.inr ?_))
    have hf : us.find? (tkAft q) = none := find_none (by rw [List.take_of_length_le (by omega)] at hno; exact hno)
    simp only [fndV, hf]
    rfl

def keepR (below last : Int) (x : TickM) : Bool := decide (below ≤ x.n) || decide (x.n = last)
set_option maxHeartbeats 4000000 in
theorem r11_trim (G : QJ) (A : Option Addr) (c : Nat) (us : List TickM) (last below : Int) (w0 : World) (hfs : List PH) (hm : Mod hfs (rfT G A c us last) w0) (hn : us.length ≤ 1000000) :
    Calls Tryz.prog 68 #[.pointer (some ⟨G.b, 5, none⟩), .int .i64 below] w0 fun e w' => ∃ v Rs', e = .returned v ∧ (v = .int .i64 ((us.length : Int) - (us.filter (keepR below last)).length) ∧ ∃ A' c', Rs' = rfT G A' c' (us.filter (keepR below last)) last) ∧ Mod hfs Rs' w' ∧ Oth w0 w' := by
  have hA : us ≠ [] → ∃ b o, A = some ⟨b, o, none⟩ := fun h => hm.own_some (i := 1) rfl h
  refine enterN (tab := tab) Tryz.func68 rfl Tryz.ntmps68 rfl (args := [_, _]) rfl hm ?_
  refine VC_sound tabOk 100 ?_
  refine Go_loop (σ := Nat × Option Addr × Nat) (fun s => [(0, .v (.pointer (some ⟨G.b, 5, none⟩))), (1, .v (.int .i64 below)), (5, .v (.slice s.2.1 ((us.take s.1).filter (keepR below last)).length s.2.2)), (6, .v (.int .i64 s.1))]) (fun s => own encT 4 44 s.2.1 s.2.2 ((us.take s.1).filter (keepR below last)) :: rfT G A c us last) (fun s => s.1 ≤ us.length) (fun s => us.length - s.1) (0, none, 0) (Nat.zero_le _) ⟨rfl, rfl, rfl, rfl, trivial⟩ (fun _ h => h.own_nil none) ?_
  rintro ⟨i, A1, c1⟩ hi
  dsimp only at hi ⊢
  have hfl : ((us.take i).filter (keepR below last)).length ≤ i := by
    have := List.length_filter_le (keepR below last) (us.take i)
    rw [List.length_take] at this; omega
  refine VC_sound tabOk 100 ?_
  (repeat (first | refine Or.inl ⟨rfl, rfl, ?_⟩ | refine Or.inl ⟨rfl, ?_⟩ | refine Or.inr ?_))
  by_cases hlt : i < us.length
  · obtain ⟨ba, oa, rfl⟩ := hA (ne_nil_of_lt hlt)
    obtain ⟨x, hgx⟩ : ∃ x, us[i]? = some x := ⟨_, List.getElem?_eq_getElem hlt⟩
    have hstep : (us.take (i + 1)).filter (keepR below last) = (us.take i).filter (keepR below last) ++ if keepR below last x = true then [x] else [] := by
      rw [List.take_add_one, hgx, List.filter_append]; simp only [Option.toList_some, List.filter_cons, List.filter_nil]
    refine ⟨fun _ => ?_, fun h => by first | (simp at h; done) | (simp at h; omega) | (simp_all; done)⟩
    show Go _ _ _ _
    refine Go_any mixed [] [(0, false), (1, false), (2, false), (4, false), (8, false), (3, false), (5, false), (6, false), (7, false), (9, false), (10, false), (11, false), (12, false), (13, false), (15, false), (19, false), (20, false), (21, false), (14, false), (16, false), (17, false), (18, false), (22, false), (23, false), (24, false)] rfl (by kernel_rfl) (by kernel_rfl) [.blk G.b 100 [G.v0, G.v1, G.v2, G.v3, G.v4, .slice (some ⟨ba, oa, none⟩) us.length c, .int .i64 last, G.v7, G.v8, G.v9]] (fun w => RdW w (some ⟨ba, oa, none⟩) (us.flatMap encT)) (fun w w' hk h => h.old hk) (fun w hm _ => ⟨Holds.of_idx [1] hm, by exact Mod.own_rd (k := 4) (T := 44) (c := c) (i := 2) hm rfl⟩) ?_
    refine VC_sound tabOk 100 ?_
    (repeat (first | refine Or.inl ⟨rfl, rfl, ?_⟩ | refine Or.inl ⟨rfl, ?_⟩ | refine Or.inr ?_))
    refine ⟨⟨by omega, by omega⟩, ?_⟩
    (repeat (first | refine Or.inl ⟨rfl, rfl, ?_⟩ | refine Or.inl ⟨rfl, ?_⟩ | refine Or.inr ?_))
    refine Go_first (v := .int .i64 x.n) rfl rfl rfl rfl (fun w _ hw => rxLoadPart tabOk rfl encT_is hw hgx (off := 0) rfl (by simp only [addA]; rfl)) ?_
    refine VC_sound tabOk 100 ?_
    refine ⟨fun h1 => ?_, fun h1 => ?_⟩
    · have kp : keepR below last x = true := by simp only [keepR, h1, Bool.true_or]
      (repeat (first | refine Or.inl ⟨rfl, rfl, ?_⟩ | refine Or.inl ⟨rfl, ?_⟩ | refine Or.inr ?_))
      refine ⟨⟨by omega, by omega⟩, ?_⟩
      (repeat (first | refine Or.inl ⟨rfl, rfl, ?_⟩ | refine Or.inl ⟨rfl, ?_⟩ | refine Or.inr ?_))
      refine Go_ops rfl (OpTo_loadRow tabOk encT_is (mkT x) rfl rfl rfl rfl rfl (fun h => by first | rfl | cases h) (fun w hm _ => hm.own_rd (i := 2) rfl) hgx (by simp only [addA]; rfl) ?_)
      refine VC_sound tabOk 100 ?_
      intro b50 _
      show Go _ _ _ _
      refine Go_ops rfl (OpTo_append tabOk encT_is (ys := [x]) (i := 1) rfl rfl rfl rfl rfl rfl rfl rfl rfl rfl rfl (fun w hm _ => hm.blk_rd (i := 0) rfl) (by simp; omega) (by simp; omega) (fun A3 c3 => ?_))
      refine VC_sound tabOk 100 ?_
      refine ⟨_, wrap_i64 (n := (i : Int) + 1) (by omega) (by omega), ?_⟩
      have e2 : (us.take (i + 1)).filter (keepR below last) = (us.take i).filter (keepR below last) ++ [x] := by rw [hstep, if_pos kp]
      exact Go_fin (i + 1, A3, c3) (by dsimp only; omega) (by dsimp only; omega) ⟨rfl, rfl, (by dsimp only; rw [e2]; simp [SV.val]), rfl, trivial⟩ (fun _ h => by dsimp only; rw [e2]; exact h.sel [1, 2, 3, 4] rfl)
    (repeat (first | refine Or.inl ⟨rfl, rfl, ?_⟩ | refine Or.inl ⟨rfl, ?_⟩ | refine Or.inr ?_))
    refine ⟨⟨by omega, by omega⟩, ?_⟩
    (repeat (first | refine Or.inl ⟨rfl, rfl, ?_⟩ | refine Or.inl ⟨rfl, ?_⟩ | refine Or.inr ?_))
    refine Go_first (v := .int .i64 x.n) rfl rfl rfl rfl (fun w _ hw => rxLoadPart tabOk rfl encT_is hw hgx (off := 0) rfl (by simp only [addA]; rfl)) ?_
    refine VC_sound tabOk 100 ?_
    (repeat (first | refine Or.inl ⟨rfl, rfl, ?_⟩ | refine Or.inl ⟨rfl, ?_⟩ | refine Or.inr ?_))
    refine ⟨fun h2 => ?_, fun h2 => ?_⟩
    · have kp : keepR below last x = true := by simp only [keepR, h1, h2, Bool.false_or]
      (repeat (first | refine Or.inl ⟨rfl, rfl, ?_⟩ | refine Or.inl ⟨rfl, ?_⟩ | refine Or.inr ?_))
      refine ⟨⟨by omega, by omega⟩, ?_⟩
      (repeat (first | refine Or.inl ⟨rfl, rfl, ?_⟩ | refine Or.inl ⟨rfl, ?_⟩ | refine Or.inr ?_))
      refine Go_ops rfl (OpTo_loadRow tabOk encT_is (mkT x) rfl rfl rfl rfl rfl (fun h => by first | rfl | cases h) (fun w hm _ => hm.own_rd (i := 2) rfl) hgx (by simp only [addA]; rfl) ?_)
      refine VC_sound tabOk 100 ?_
      intro b50 _
      show Go _ _ _ _
      refine Go_ops rfl (OpTo_append tabOk encT_is (ys := [x]) (i := 1) rfl rfl rfl rfl rfl rfl rfl rfl rfl rfl rfl (fun w hm _ => hm.blk_rd (i := 0) rfl) (by simp; omega) (by simp; omega) (fun A3 c3 => ?_))
      refine VC_sound tabOk 100 ?_
      refine ⟨_, wrap_i64 (n := (i : Int) + 1) (by omega) (by omega), ?_⟩
      have e2 : (us.take (i + 1)).filter (keepR below last) = (us.take i).filter (keepR below last) ++ [x] := by rw [hstep, if_pos kp]
      exact Go_fin (i + 1, A3, c3) (by dsimp only; omega) (by dsimp only; omega) ⟨rfl, rfl, (by dsimp only; rw [e2]; simp [SV.val]), rfl, trivial⟩ (fun _ h => by dsimp only; rw [e2]; exact h.sel [1, 2, 3, 4] rfl)
    · have kn : ¬ keepR below last x = true := by simp only [keepR, h1, h2]; decide
      refine ⟨_, wrap_i64 (n := (i : Int) + 1) (by omega) (by omega), ?_⟩
      have e2 : (us.take (i + 1)).filter (keepR below last) = (us.take i).filter (keepR below last) := by rw [hstep, if_neg kn, List.append_nil]
      exact Go_fin (i + 1, A1, c1) (by dsimp only; omega) (by dsimp only; omega) ⟨rfl, rfl, (by dsimp only; rw [e2]), rfl, trivial⟩ (fun _ h => by dsimp only; rw [e2]; exact h)
  have he : i = us.length := by omega
  subst he
  rw [List.take_length] at hfl ⊢
  refine ⟨fun h => by first | (simp at h; done) | (simp at h; omega) | (simp_all; done), fun _ => ?_⟩
  (repeat (first | refine Or.inl ⟨rfl, rfl, ?_⟩ | refine Or.inl ⟨rfl, ?_⟩ | refine Or.inr ?_))
  refine ⟨_, wrap_i64 (n := (us.length : Int) - (us.filter (keepR below last)).length) (by omega) (by omega), ?_⟩
  (repeat (first | refine Or.inl ⟨rfl, rfl, ?_⟩ | refine Or.inl ⟨rfl, ?_⟩ | refine Or.inr ?_))
  refine ⟨_, ⟨rfl, A1, c1, rfl⟩, fun hfs w h => ?_⟩
  have h := h.sel [1, 0, 3] rfl
  exact h.ro_sub (i := 2) (tkBag (us.filter (keepR below last))) rfl fun p hp => by
    obtain ⟨t, ht, rfl⟩ := List.mem_map.1 hp
    exact List.mem_map.2 ⟨t, (List.mem_filter.1 ht).1, rfl⟩

set_option maxHeartbeats 1000000 in
theorem r11_same (x y : TickM) (h1 : x.n = y.n) (h2 : x.mx = y.mx) (h3 : x.op = y.op) (h4 : x.t = y.t) (w0 : World) (hx : RdI w0 x.A x.op) (hy : RdI w0 y.A y.op) (hl : x.op.length ≤ 1000000) :
    Calls Tryz.prog 56 #[mkT x, mkT y] w0 fun e w' => e = .returned (.bool true) ∧ BelowD w0.heap.size w0 w' := by
  refine enterP (tab := tab) Tryz.func56 rfl Tryz.ntmps56 rfl (args := [_, _]) rfl ?_
  refine VC_sound tabOk 100 ?_
  intro b2 _ b3 _
  (repeat (first | refine Or.inl ⟨rfl, rfl, ?_⟩ | refine Or.inl ⟨rfl, ?_⟩ | refine Or.inr ?_))
  refine ⟨fun _ => ?_, fun h => absurd h1 (of_decide_eq_false h)⟩
  (repeat (first | refine Or.inl ⟨rfl, rfl, ?_⟩ | refine Or.inl ⟨rfl, ?_⟩ | refine Or.inr ?_))
  refine ⟨fun _ => ?_, fun h => absurd h4 (of_decide_eq_false h)⟩
  (repeat (first | refine Or.inl ⟨rfl, rfl, ?_⟩ | refine Or.inl ⟨rfl, ?_⟩ | refine Or.inr ?_))
  refine ⟨fun _ => ?_, fun h => absurd h2 (of_decide_eq_false h)⟩
  (repeat (first | refine Or.inl ⟨rfl, rfl, ?_⟩ | refine Or.inl ⟨rfl, ?_⟩ | refine Or.inr ?_))
  refine Go_ops rfl (OpTo_pcall (v := .bool (decide (x.op = y.op))) rfl rfl rfl rfl rfl (by kernel_rfl) (fun w hm _ => r01_ints x.A y.A x.c y.c x.op y.op w (hx.mod hm) (hy.mod hm) (by omega)) ?_)
  refine VC_sound tabOk 100 ?_
  exact congrArg Value.bool (decide_eq_true h3)
end Go.Proofs.YthpcahgdobnljaaGreat.Tk
