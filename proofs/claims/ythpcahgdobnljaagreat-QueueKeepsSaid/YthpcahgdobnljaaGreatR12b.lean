/- What the reference of layer 12 answers of what lies between two snapshots. -/
import Derived.Test.YthpcahgdobnljaaGreatR12
import Derived.Test.YthpcahgdobnljaaGreatL12b
import Derived.Test.YthpcahgdobnljaaGreatR09
set_option maxRecDepth 100000
set_option autoImplicit false
set_option linter.unusedVariables false
set_option linter.unusedSimpArgs false
namespace Go.Proofs.YthpcahgdobnljaaGreat.Bt
open Go.RX Go Go.RowKit


def rofP (st : Int → Int) (f t : SnM) (o : ByteArray) (e : EventM) : Bool := dueR e o && (decide (st e.tx = 2) && (t.sees e.tx && !f.sees e.tx))
theorem dueR_eq (e : EventM) (o : ByteArray) : dueR e o = dueB e o := by
  have h : decide (e.owner.size = 0) = bsEq e.owner emptyS := by
    rw [Bool.eq_iff_iff, bsEq_iff, decide_eq_true_eq]
    constructor
    · intro h
      refine ByteArray.ext ?_
      exact Array.eq_empty_of_size_eq_zero h
    · rintro h; rw [h]; rfl
  rw [dueR, h]; rfl
theorem rofP_eq (st : Int → Int) (f t : SnM) (o : ByteArray) (e : EventM) : rofP st f t o e = bofP st f t o e := by
  rw [rofP, bofP, dueR_eq]
  cases dueB e o <;> cases decide (st e.tx = 2) <;> simp

set_option maxHeartbeats 8000000 in
theorem r12_of (A : Option Addr) (c : Nat) (l : List EventM) (br : Nat) (Ar : Option Addr) (cr : Nat) (R : List Int) (f t : SnM) (o : ByteArray) (w0 : World) (hr : RdW w0 A (l.flatMap encE)) (hl : l.length ≤ 10000) (hR : RefAt w0 br Ar cr R) (hf : f.rd w0) (ht : t.rd w0) :
    Calls Tryz.prog 122 #[.slice A l.length c, .pointer (some ⟨br, 0, none⟩), f.v, t.v, .string o] w0 fun e w' => ∃ v Rs', e = .returned v ∧ (∃ ys, SrtR (l.filter (rofP (rState R) f t o)) ys ∧ rowER ys v Rs') ∧ Mod [heapOf w0] Rs' w' ∧ Oth w0 w' := by
  refine enterN (tab := tab) Tryz.func122 rfl Tryz.ntmps122 rfl (args := [_, _, _, _, _]) rfl (Mod.start w0) ?_
  refine VC_sound tabOk 100 ?_
  intro b7 _
  intro b8 _
  refine Go_loop (σ := Nat × Option Addr × Nat) (fun s => [(0, .v (.slice A l.length c)), (1, .v (.pointer (some ⟨br, 0, none⟩))), (4, .v (.string o)), (7, .v (.pointer (some ⟨b7, 0, none⟩))), (8, .v (.pointer (some ⟨b8, 0, none⟩))), (11, .v (.slice s.2.1 ((l.take s.1).filter (rofP (rState R) f t o)).length s.2.2)), (12, .v (.int .i64 s.1))])
    (fun s => [own encE 8 65 s.2.1 s.2.2 ((l.take s.1).filter (rofP (rState R) f t o)), .blk b8 42 [.int .i64 t.mx, .slice t.A t.op.length t.c], .blk b7 42 [.int .i64 f.mx, .slice f.A f.op.length f.c]]) (fun s => s.1 ≤ l.length) (fun s => l.length - s.1) (0, none, 0) (Nat.zero_le _) ⟨rfl, rfl, rfl, rfl, rfl, rfl, rfl, trivial⟩ (fun _ h => h.own_nil none) ?_
  rintro ⟨i, A', c'⟩ hi
  dsimp only at hi ⊢
  have hfl := List.length_filter_le (rofP (rState R) f t o) (l.take i)
  rw [List.length_take] at hfl
  by_cases hlt : i < l.length
  · obtain ⟨b, of, rfl⟩ := RdW.some encE_is hr (ne_nil_of_lt hlt)
    obtain ⟨e, hge⟩ : ∃ e, l[i]? = some e := ⟨_, List.getElem?_eq_getElem hlt⟩
    have hstep : (l.take (i + 1)).filter (rofP (rState R) f t o) = (l.take i).filter (rofP (rState R) f t o) ++ if rofP (rState R) f t o e = true then [e] else [] := by
      rw [List.take_add_one, hge, List.filter_append]
      congr 1
      simp only [Option.toList_some, List.filter_cons, List.filter_nil]
    have skip : rofP (rState R) f t o e = false → (l.take (i + 1)).filter (rofP (rState R) f t o) = (l.take i).filter (rofP (rState R) f t o) := fun h => by rw [hstep, h]; simp
    refine VC_sound tabOk 100 ?_
    refine ⟨fun _ => ?_, fun h => by first | (simp at h; done) | (simp at h; omega) | (simp_all; done)⟩
    refine ⟨⟨by omega, by omega⟩, ?_⟩
    (repeat (first | refine Or.inl ⟨rfl, rfl, ?_⟩ | refine Or.inl ⟨rfl, ?_⟩ | refine Or.inr ?_))
    refine Go_ops rfl (OpTo_loadRow tabOk encE_is (mkE e) rfl rfl rfl rfl rfl (fun h => by first | rfl | cases h) (fun w hm _ => hr.mod hm) hge (by simp only [addA]; rfl) ?_)
    refine VC_sound tabOk 100 ?_
    intro b13 _
    (repeat (first | refine Or.inl ⟨rfl, rfl, ?_⟩ | refine Or.inl ⟨rfl, ?_⟩ | refine Or.inr ?_))
    refine Go_ops rfl (OpTo_pcall (v := .bool (dueR e o)) rfl rfl rfl rfl rfl (by kernel_rfl) (fun w hm _ => r09_due e o w) ?_)
    refine VC_sound tabOk 100 ?_
    refine ⟨fun h2 => ?_, fun h2 => ?_⟩
    · (repeat (first | refine Or.inl ⟨rfl, rfl, ?_⟩ | refine Or.inl ⟨rfl, ?_⟩ | refine Or.inr ?_))
      refine Go_ops rfl (OpTo_pcall (v := .int .u8 (rState R e.tx)) rfl rfl rfl rfl rfl (by kernel_rfl) (fun w hm _ => (hR.old hm.old).state e.tx) ?_)
      refine VC_sound tabOk 100 ?_
      refine ⟨fun h1 => ?_, fun h1 => ?_⟩
      · (repeat (first | refine Or.inl ⟨rfl, rfl, ?_⟩ | refine Or.inl ⟨rfl, ?_⟩ | refine Or.inr ?_))
        refine Go_ops rfl (OpTo_pcall (v := .bool (t.sees e.tx)) rfl rfl rfl rfl rfl (by kernel_rfl) (fun w hm _ => r05_sees t.mx t.A t.c t.op e.tx w (ht.1.mod hm) (by have := ht.2; omega)) ?_)
        refine VC_sound tabOk 100 ?_
        refine ⟨fun h3 => ?_, fun h3 => ?_⟩
        · (repeat (first | refine Or.inl ⟨rfl, rfl, ?_⟩ | refine Or.inl ⟨rfl, ?_⟩ | refine Or.inr ?_))
          refine Go_ops rfl (OpTo_pcall (v := .bool (f.sees e.tx)) rfl rfl rfl rfl rfl (by kernel_rfl) (fun w hm _ => r05_sees f.mx f.A f.c f.op e.tx w (hf.1.mod hm) (by have := hf.2; omega)) ?_)
          refine VC_sound tabOk 100 ?_
          refine ⟨fun h4 => ?_, fun h4 => ?_⟩
          · have hP : rofP (rState R) f t o e = true := by simp only [rofP, h2, h3, h1, Bool.true_and]; exact h4
            (repeat (first | refine Or.inl ⟨rfl, rfl, ?_⟩ | refine Or.inl ⟨rfl, ?_⟩ | refine Or.inr ?_))
            intro b47 _
            show Go _ _ _ _
            refine Go_ops rfl (OpTo_append tabOk encE_is (ys := [e]) (i := 2) rfl rfl rfl rfl rfl rfl rfl rfl rfl rfl rfl (fun w hm _ => hm.blk_rd (i := 0) rfl) (by simp; omega) (by simp; omega) (fun A2 c2 => ?_))
            refine VC_sound tabOk 100 ?_
            refine ⟨_, wrap_i64 (n := (i : Int) + 1) (by omega) (by omega), ?_⟩
            rw [hP, if_pos rfl] at hstep
            refine Go_fin (i + 1, A2, c2) (by dsimp only; omega) (by dsimp only; omega) ⟨rfl, rfl, rfl, rfl, rfl, ?_, rfl, trivial⟩ (fun _ h => by dsimp only; rw [hstep]; exact h.sel [2, 3, 4] rfl)
            dsimp only; rw [hstep, List.length_append]; rfl
          · have hP := skip (by simp only [rofP, h2, h3, h1, Bool.true_and]; exact h4)
            refine ⟨_, wrap_i64 (n := (i : Int) + 1) (by omega) (by omega), ?_⟩
            refine Go_fin (i + 1, A', c') (by dsimp only; omega) (by dsimp only; omega) ⟨rfl, rfl, rfl, rfl, rfl, ?_, rfl, trivial⟩ (fun _ h => by dsimp only; rw [hP]; exact h.sel [1, 2, 3] rfl)
            dsimp only; rw [hP]
        · have hP := skip (by simp only [rofP, h2, h3, h1]; rfl)
          refine ⟨_, wrap_i64 (n := (i : Int) + 1) (by omega) (by omega), ?_⟩
          refine Go_fin (i + 1, A', c') (by dsimp only; omega) (by dsimp only; omega) ⟨rfl, rfl, rfl, rfl, rfl, ?_, rfl, trivial⟩ (fun _ h => by dsimp only; rw [hP]; exact h.sel [1, 2, 3] rfl)
          dsimp only; rw [hP]
      · have hP := skip (by simp only [rofP, h2, h1]; rfl)
        refine ⟨_, wrap_i64 (n := (i : Int) + 1) (by omega) (by omega), ?_⟩
        refine Go_fin (i + 1, A', c') (by dsimp only; omega) (by dsimp only; omega) ⟨rfl, rfl, rfl, rfl, rfl, ?_, rfl, trivial⟩ (fun _ h => by dsimp only; rw [hP]; exact h.sel [1, 2, 3] rfl)
        dsimp only; rw [hP]
    · have hP := skip (by simp only [rofP, h2]; rfl)
      refine ⟨_, wrap_i64 (n := (i : Int) + 1) (by omega) (by omega), ?_⟩
      refine Go_fin (i + 1, A', c') (by dsimp only; omega) (by dsimp only; omega) ⟨rfl, rfl, rfl, rfl, rfl, ?_, rfl, trivial⟩ (fun _ h => by dsimp only; rw [hP]; exact h.sel [1, 2, 3] rfl)
      dsimp only; rw [hP]
  refine VC_sound tabOk 100 ?_
  refine ⟨fun h => by first | (simp at h; done) | (simp at h; omega) | (simp_all; done), fun _ => ?_⟩
  have he : i = l.length := by omega
  subst he
  rw [List.take_length] at hfl ⊢
  show Go _ _ _ _
  refine Go_ops rfl (OpTo_ncall rfl rfl rfl rfl rfl (by kernel_rfl) (fun w hm _ => r09_sort A' c' (l.filter (rofP (rState R) f t o)) w (hm.own_rd (i := 0) rfl) (by omega)) ?_)
  rintro _ _ ⟨ys, hS, A2, c2, rfl, rfl⟩
  refine VC_sound tabOk 100 ?_
  exact ⟨_, ⟨ys, hS, A2, c2, rfl, rfl⟩, fun _ _ h => h.sel [0] rfl⟩

/-- What the program answers is what the reference answers. -/
theorem of_same {R : List Int} (hR : okR R) (l : List EventM) (f t f' t' : SnM) (o : ByteArray) (hf : f'.mx = f.mx ∧ f'.op = f.op) (ht : t'.mx = t.mx ∧ t'.op = t.op) {ys zs : List EventM} (h1 : Srt (l.filter (bofP (stE (txOf R)) f t o)) ys) (h2 : SrtR (l.filter (rofP (rState R) f' t' o)) zs) : zs = ys := by
  have e : l.filter (rofP (rState R) f' t' o) = l.filter (bofP (stE (txOf R)) f t o) := by
    congr 1; funext x
    rw [rofP_eq]
    simp only [bofP, SnM.sees, hf.1, hf.2, ht.1, ht.2, stE_txOf hR]
  rw [e] at h2
  exact Rise.unique ordI h2.2.1 h1.2.1 (h2.1.symm.trans h1.1)
end Go.Proofs.YthpcahgdobnljaaGreat.Bt
