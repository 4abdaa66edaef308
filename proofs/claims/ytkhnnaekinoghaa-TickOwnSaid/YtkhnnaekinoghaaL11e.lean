/- The law TickOwn of layer 11: what its run comes to. -/
import Derived.Test.YtkhnnaekinoghaaL11
set_option autoImplicit false
set_option linter.unusedVariables false
namespace Go.Proofs.Ytkhnnaekinoghaa
open Go.RX Go Go.RowKit


set_option maxHeartbeats 2000000 in
theorem l11_TickOwn (q : Int) (w0 : World) : Calls Try.prog 7 #[.int .i64 q] w0 fun e w' => e = .returned (.bool true) ∧ Below w0.heap.size w0 w' := by
  refine enterP (tab := tab) Try.func7 rfl Try.ntmps7 rfl (args := [_]) rfl ?_
  refine VC_sound tabOk 100 ?_
  show Go _ _ _ _
  refine Go_ops rfl (OpTo_ncall rfl rfl rfl rfl rfl (by kernel_rfl) (fun w hm _ => tick_new2 w) ?_)
  rintro _ _ ⟨bt, rfl, rfl⟩
  refine VC_sound tabOk 100 ?_
  intro bo _
  refine Go_sel [1, 2, 3, 0] rfl ?_
  show Go _ _ _ _
  refine Go_ops rfl (OpTo_mcall (tkR bt none 0 [] 0) [.blk bo 2 [.int .i64 2, .int .i64 3]] (List.Perm.refl _) rfl rfl rfl rfl rfl (by kernel_rfl)
    (fun w hb hm hio hsp k => tick_add bt none 0 [] 0 5 (some ⟨bo, 0, none⟩) 2 [2, 3] 7 w _ k (RdF.of_split hsp fun Rs w h => h.blk_rd (i := Rs.length + 0) (by rw [getElem?_append_add]; rfl)) (by simp) (fun t ht => by simp at ht) (by omega) (by omega) (by simp)) ?_)
  rintro _ _ (⟨g, _⟩ | ⟨_, A1, c1, A2, c2, A3, c3, rfl, rfl⟩)
  · exact absurd rfl g
  show Go _ _ _ _
  refine Go_with (∃ b o, A3 = some ⟨b, o, none⟩) (fun w hm _ => hm.own_some (i := 3) rfl (by simp)) ?_
  rintro ⟨b', o', rfl⟩
  refine VC_sound tabOk 100 ?_
  intro b5 _
  (repeat (first | refine Or.inl ⟨rfl, rfl, ?_⟩ | refine Or.inl ⟨rfl, ?_⟩ | refine Or.inr ?_))
  refine ⟨⟨by omega, by first | omega | simp⟩, ?_⟩
  (repeat (first | refine Or.inl ⟨rfl, rfl, ?_⟩ | refine Or.inl ⟨rfl, ?_⟩ | refine Or.inr ?_))
  refine ⟨fun h => by simp at h, fun _ => ?_⟩
  (repeat (first | refine Or.inl ⟨rfl, rfl, ?_⟩ | refine Or.inl ⟨rfl, ?_⟩ | refine Or.inr ?_))
  refine ⟨⟨by omega, by first | omega | simp⟩, ?_⟩
  (repeat (first | refine Or.inl ⟨rfl, rfl, ?_⟩ | refine Or.inl ⟨rfl, ?_⟩ | refine Or.inr ?_))
  show Go _ _ _ _
  refine Go_ops rfl (OpTo_storeRow tabOk (encI_is .i64) (n := 1) (s := .v (.int .i64 q)) (u := q) (xs := [2, 3]) 4 rfl rfl rfl rfl rfl rfl rfl (by simp) rfl rfl ?_)
  refine VC_sound tabOk 100 ?_
  have hb : ∀ t ∈ [(⟨0 + 1, 5, A1, c1, [2, 3], 7⟩ : TickM)], (0 ≤ t.mx ∧ t.mx ≤ 9223372036854775807) ∧ t.op.length ≤ 1000000 := fun t ht => by simp at ht; subst ht; simp
  show Go _ _ _ _
  refine Go_ops rfl (OpTo_ncall rfl rfl rfl rfl rfl (by kernel_rfl) (fun w hm _ => tick_get bt A2 c2 [⟨0 + 1, 5, A1, c1, [2, 3], 7⟩] (0 + 1) 1 w (hm.blk_at (i := 1) rfl) (hm.own_rd (i := 2) rfl) (fun t ht => hm.ro_rd (i := 3) rfl (List.mem_map.2 ⟨t, ht, rfl⟩)) (by simp) hb) ?_)
  rintro _ _ (⟨h, _⟩ | ⟨x, A4, c4, h, rfl, rfl⟩)
  · simp [tkIs] at h
  simp [tkIs] at h
  subst h
  show Go _ _ _ _
  refine Go_with (∃ b o, A4 = some ⟨b, o, none⟩) (fun w hm _ => hm.own_some (i := 0) rfl (by simp)) ?_
  rintro ⟨b4', o4', rfl⟩
  refine VC_sound tabOk 100 ?_
  intro b7 _
  (repeat (first | refine Or.inl ⟨rfl, rfl, ?_⟩ | refine Or.inl ⟨rfl, ?_⟩ | refine Or.inr ?_))
  refine ⟨fun h => by simp at h, fun _ => ?_⟩
  (repeat (first | refine Or.inl ⟨rfl, rfl, ?_⟩ | refine Or.inl ⟨rfl, ?_⟩ | refine Or.inr ?_))
  refine ⟨⟨by omega, by first | omega | simp⟩, ?_⟩
  (repeat (first | refine Or.inl ⟨rfl, rfl, ?_⟩ | refine Or.inl ⟨rfl, ?_⟩ | refine Or.inr ?_))
  show Go _ _ _ _
  refine Go_ops rfl (OpTo_storeRow tabOk (encI_is .i64) (n := 0) (s := .v (.int .i64 q)) (u := q) (xs := [2, 3]) 1 rfl rfl rfl rfl rfl rfl rfl (by simp) rfl rfl ?_)
  refine VC_sound tabOk 100 ?_
  show Go _ _ _ _
  refine Go_ops rfl (OpTo_ncall rfl rfl rfl rfl rfl (by kernel_rfl) (fun w hm _ => tick_after bt A2 c2 [⟨0 + 1, 5, A1, c1, [2, 3], 7⟩] (0 + 1) 0 w (hm.blk_at (i := 3) rfl) (hm.own_rd (i := 4) rfl) (fun t ht => hm.ro_rd (i := 5) rfl (List.mem_map.2 ⟨t, ht, rfl⟩)) (by simp) hb) ?_)
  rintro _ _ (⟨h, _⟩ | ⟨x, A5, c5, h, rfl, rfl⟩)
  · simp [tkAft] at h
  simp [tkAft] at h
  subst h
  show Go _ _ _ _
  refine Go_with (∃ b o, A5 = some ⟨b, o, none⟩) (fun w hm _ => hm.own_some (i := 0) rfl (by simp)) ?_
  rintro ⟨b5', o5', rfl⟩
  refine VC_sound tabOk 100 ?_
  intro b9 _
  (repeat (first | refine Or.inl ⟨rfl, rfl, ?_⟩ | refine Or.inl ⟨rfl, ?_⟩ | refine Or.inr ?_))
  refine Go_ops rfl (OpTo_pcall (v := .bool true) rfl rfl rfl rfl rfl (by kernel_rfl) (fun w hm _ => l11_trims w) ?_)
  refine VC_sound tabOk 100 ?_
  refine ⟨fun _ => ?_, fun h => by simp at h⟩
  refine ⟨fun _ => ?_, fun h => by simp at h⟩
  (repeat (first | refine Or.inl ⟨rfl, rfl, ?_⟩ | refine Or.inl ⟨rfl, ?_⟩ | refine Or.inr ?_))
  refine ⟨fun _ => ?_, fun h => by simp at h⟩
  (repeat (first | refine Or.inl ⟨rfl, rfl, ?_⟩ | refine Or.inl ⟨rfl, ?_⟩ | refine Or.inr ?_))
  refine ⟨⟨by omega, by first | omega | simp⟩, ?_⟩
  (repeat (first | refine Or.inl ⟨rfl, rfl, ?_⟩ | refine Or.inl ⟨rfl, ?_⟩ | refine Or.inr ?_))
  refine Go_ops rfl (OpTo_loadRow tabOk (encI_is .i64) (xs := [2, 3]) (n := 0) (u := 2) (.int .i64 2) rfl rfl rfl rfl rfl (fun _ => rfl) (fun w hm _ => hm.own_rd (i := 1) rfl) rfl rfl ?_)
  refine VC_sound tabOk 100 ?_
  refine ⟨fun _ => ?_, fun h => by simp at h⟩
  (repeat (first | refine Or.inl ⟨rfl, rfl, ?_⟩ | refine Or.inl ⟨rfl, ?_⟩ | refine Or.inr ?_))
  refine ⟨⟨by omega, by first | omega | simp⟩, ?_⟩
  (repeat (first | refine Or.inl ⟨rfl, rfl, ?_⟩ | refine Or.inl ⟨rfl, ?_⟩ | refine Or.inr ?_))
  refine Go_ops rfl (OpTo_loadRow tabOk (encI_is .i64) (xs := [2, 3]) (n := 1) (u := 3) (.int .i64 3) rfl rfl rfl rfl rfl (fun _ => rfl) (fun w hm _ => hm.own_rd (i := 1) rfl) rfl rfl ?_)
  refine VC_sound tabOk 100 ?_
  rfl
end Go.Proofs.Ytkhnnaekinoghaa
