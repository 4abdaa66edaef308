/- The laws of layer 11: what each run comes to. -/
import Derived.Test.YtkhnnaekinoghaaTick
import Derived.Test.YtkhnnaekinoghaaSnapLaw
set_option autoImplicit false
set_option linter.unusedVariables false
namespace Go.Proofs.Ytkhnnaekinoghaa
open Go.RX Go Go.RowKit


theorem tick_new2 (w0 : World) : Calls Try.prog 11 #[] w0 fun e w' => ∃ v Rs', e = .returned v ∧ (∃ bt, v = .pointer (some ⟨bt, 0, none⟩) ∧ Rs' = tkR bt none 0 [] 0) ∧ Mod [heapOf w0] Rs' w' ∧ Oth w0 w' :=
  (tick_new w0).mono fun e w' ⟨v, Rs', h1, ⟨bt, h2, h3⟩, h4, h5⟩ => by
    subst h3
    exact ⟨v, _, h1, ⟨bt, h2, rfl⟩, ((h4.ro_nil.own_nil (enc := encT) (k := 4) (T := 29) none).sel [2, 0, 1] rfl), h5⟩

def TkOne (ts : List TickM) : Prop := ∀ t ∈ ts, t.mx = 1 ∧ t.op = [] ∧ t.t = 0
theorem TkOne.fit {ts : List TickM} (h : TkOne ts) : TkFit ts := fun t ht => by
  obtain ⟨h1, h2, _⟩ := h t ht
  rw [h1, h2]; simp
theorem TkOne.add {ts : List TickM} (h : TkOne ts) (hl : ts.length < 64) : tkAdd ts 1 [] 0 = 0 := by
  simp only [tkAdd]
  rw [if_neg (by omega), if_pos]
  simp only [tkFollows]
  cases hg : ts.getLast? with
  | none => rfl
  | some l =>
    obtain ⟨h1, h2, h3⟩ := h l (List.mem_of_getLast? hg)
    simp only [h1, h2, h3]; rfl
theorem TkOne.snoc {ts : List TickM} (h : TkOne ts) (n : Int) (A : Option Addr) (c : Nat) : TkOne (ts ++ [⟨n, 1, A, c, [], 0⟩]) := fun t ht => by
  rcases List.mem_append.1 ht with ht | ht
  · exact h t ht
  · simp at ht; subst ht; simp
theorem TkOne.nil : TkOne [] := fun _ h => by simp at h

def addOkQ (bt : Nat) (ts : List TickM) (last mx : Int) (op : List Int) (q : Int) : Value → List Res → Prop := fun v Rs =>
  ∃ A1 c1 A2 c2 A3 c3, v = .tuple #[mkT ⟨last + 1, mx, A3, c3, op, q⟩, .int .i64 0] ∧ Rs = tkR bt A2 c2 (ts ++ [⟨last + 1, mx, A1, c1, op, q⟩]) (last + 1) ++ [own (encI .i64) 1 2 A3 c3 op]
theorem add_one (bt : Nat) (A : Option Addr) (c : Nat) (ts : List TickM) (last : Int) (w0 : World) (hfs : List PH) (hm : Mod hfs (tkR bt A c ts last) w0) (h1 : TkOne ts) (hlt : ts.length < 64) (hl : 0 ≤ last ∧ last ≤ 1000000) :
    Calls Try.prog 12 #[.pointer (some ⟨bt, 0, none⟩), snV 1 none 0 0, .int .i64 0] w0 fun e w' => ∃ v Rs', e = .returned v ∧ addOkQ bt ts last 1 [] 0 v Rs' ∧ Mod hfs Rs' w' ∧ Oth w0 w' :=
  (tick_add bt A c ts last 1 none 0 [] 0 w0 hfs hm (fun _ _ _ => .inl rfl) (by simp) h1.fit (by omega) hl (by omega)).mono fun e w' ⟨v, Rs', k1, k2, k3, k4⟩ => by
    rcases k2 with ⟨k, _⟩ | ⟨_, k⟩
    · exact absurd (h1.add hlt) k
    · exact ⟨v, Rs', k1, k, k3, k4⟩
theorem add_full (bt : Nat) (A : Option Addr) (c : Nat) (ts : List TickM) (last : Int) (w0 : World) (hfs : List PH) (hm : Mod hfs (tkR bt A c ts last) w0) (h1 : TkOne ts) (hge : 64 ≤ ts.length) (hts : ts.length ≤ 1000) (hl : 0 ≤ last ∧ last ≤ 1000000) :
    Calls Try.prog 12 #[.pointer (some ⟨bt, 0, none⟩), snV 1 none 0 0, .int .i64 0] w0 fun e w' => ∃ v Rs', e = .returned v ∧ (v = .tuple #[mkT zeroT, .int .i64 8] ∧ Rs' = tkR bt A c ts last) ∧ Mod hfs Rs' w' ∧ Oth w0 w' :=
  (tick_add bt A c ts last 1 none 0 [] 0 w0 hfs hm (fun _ _ _ => .inl rfl) (by simp) h1.fit (by omega) hl (by omega)).mono fun e w' ⟨v, Rs', k1, k2, k3, k4⟩ => by
    have e : tkAdd ts 1 [] 0 = 8 := by simp only [tkAdd]; rw [if_pos hge]
    rcases k2 with ⟨k, k5, k6⟩ | ⟨k, _⟩
    · rw [e] at k5; exact ⟨v, Rs', k1, ⟨k5, k6⟩, k3, k4⟩
    · rw [e] at k; cases k

set_option maxHeartbeats 1000000 in
theorem l11_trims (w0 : World) : Calls Try.prog 10 #[] w0 fun e w' => e = .returned (.bool true) ∧ BelowD w0.heap.size w0 w' := by
  refine enterP (tab := tab) Try.func10 rfl Try.ntmps10 rfl (args := []) rfl ?_
  refine VC_sound tabOk 100 ?_
  show Go _ _ _ _
  refine Go_ops rfl (OpTo_ncall rfl rfl rfl rfl rfl (by kernel_rfl) (fun w hm _ => tick_new2 w) ?_)
  rintro _ _ ⟨bt, rfl, rfl⟩
  refine VC_sound tabOk 100 ?_
  show Go _ _ _ _
  refine Go_ops rfl (OpTo_mcall (tkR bt none 0 [] 0) [] (List.Perm.of_eq (by simp)) rfl rfl rfl rfl rfl (by kernel_rfl) (fun w hb hm hio hsp h1 => add_one bt none 0 [] 0 w _ h1 TkOne.nil (by simp) (by omega)) ?_)
  rintro _ _ ⟨A1, c1, A2, c2, A3, c3, rfl, rfl⟩
  have one1 := TkOne.nil.snoc (0 + 1) A1 c1
  refine VC_sound tabOk 100 ?_
  show Go _ _ _ _
  refine Go_ops rfl (OpTo_mcall (tkR bt A2 c2 ([] ++ [⟨0 + 1, 1, A1, c1, [], 0⟩]) (0 + 1)) [own (encI .i64) 1 2 A3 c3 []] (List.Perm.refl _) rfl rfl rfl rfl rfl (by kernel_rfl) (fun w hb hm hio hsp h1 => add_one bt A2 c2 _ (0 + 1) w _ h1 one1 (by simp) (by omega)) ?_)
  rintro _ _ ⟨A4, c4, A5, c5, A6, c6, rfl, rfl⟩
  refine VC_sound tabOk 100 ?_
  show Go _ _ _ _
  refine Go_ops rfl (OpTo_mcall (tkR bt A5 c5 ([] ++ [⟨0 + 1, 1, A1, c1, [], 0⟩] ++ [⟨0 + 1 + 1, 1, A4, c4, [], 0⟩]) (0 + 1 + 1)) [own (encI .i64) 1 2 A6 c6 [], own (encI .i64) 1 2 A3 c3 []] (List.Perm.refl _) rfl rfl rfl rfl rfl (by kernel_rfl) (fun w hb hm hio hsp h1 => tick_trim bt A5 c5 _ (0 + 1 + 1) 9 w _ h1 (by simp)) ?_)
  rintro _ _ ⟨rfl, rfl⟩
  refine VC_sound tabOk 100 ?_
  refine ⟨fun _ => ?_, fun h => by simp [tkGone] at h⟩
  refine Go_ops rfl (OpTo_pcall (v := .int .i64 2) rfl rfl rfl rfl rfl (by kernel_rfl) (fun w hm _ => tick_last bt _ _ _ 2 w (hm.blk_at (i := 0) rfl)) ?_)
  refine VC_sound tabOk 100 ?_
  refine ⟨fun _ => ?_, fun h => by simp at h⟩
  refine Go_ops rfl (OpTo_pcall (v := .int .i64 1) rfl rfl rfl rfl rfl (by kernel_rfl) (fun w hm _ => tick_len bt _ 1 _ 2 w (hm.blk_at (i := 0) rfl)) ?_)
  refine VC_sound tabOk 100 ?_
  rfl

set_option maxHeartbeats 1000000 in
theorem l11_TickNil (n : Int) (w0 : World) : Calls Try.prog 9 #[.int .i64 n] w0 fun e w' => e = .returned (.bool true) ∧ BelowD w0.heap.size w0 w' := by
  refine enterP (tab := tab) Try.func9 rfl Try.ntmps9 rfl (args := [_]) rfl ?_
  refine VC_sound tabOk 100 ?_
  refine Go_ops rfl (OpTo_pcall (v := .tuple #[mkT zeroT, .int .i64 4]) rfl rfl rfl rfl rfl (by kernel_rfl) (fun w hm _ => tick_add_nil 1 none 0 0 n w) ?_)
  refine VC_sound tabOk 100 ?_
  intro b1 _
  (repeat (first | refine Or.inl ⟨rfl, rfl, ?_⟩ | refine Or.inl ⟨rfl, ?_⟩ | refine Or.inr ?_))
  refine Go_ops rfl (OpTo_pcall (v := .tuple #[mkT zeroT, .bool false]) rfl rfl rfl rfl rfl (by kernel_rfl) (fun w hm _ => tick_get_nil n w) ?_)
  refine VC_sound tabOk 100 ?_
  intro b2 _
  (repeat (first | refine Or.inl ⟨rfl, rfl, ?_⟩ | refine Or.inl ⟨rfl, ?_⟩ | refine Or.inr ?_))
  refine Go_ops rfl (OpTo_pcall (v := .tuple #[mkT zeroT, .bool false]) rfl rfl rfl rfl rfl (by kernel_rfl) (fun w hm _ => tick_after_nil n w) ?_)
  refine VC_sound tabOk 100 ?_
  intro b3 _
  (repeat (first | refine Or.inl ⟨rfl, rfl, ?_⟩ | refine Or.inl ⟨rfl, ?_⟩ | refine Or.inr ?_))
  refine Go_ops rfl (OpTo_pcall (v := .bool true) rfl rfl rfl rfl rfl (by kernel_rfl) (fun w hm _ => l11_trims w) ?_)
  refine VC_sound tabOk 100 ?_
  refine ⟨fun _ => ?_, fun h => by simp at h⟩
  refine ⟨fun _ => ?_, fun h => by simp at h⟩
  refine Go_ops rfl (OpTo_pcall (v := .int .i64 4) rfl rfl rfl rfl rfl (by kernel_rfl) (fun w hm _ => tick_put_nil ⟨n, 0, none, 0, [], 0⟩ w) ?_)
  refine VC_sound tabOk 100 ?_
  refine ⟨fun _ => ?_, fun h => by simp at h⟩
  refine ⟨fun _ => ?_, fun h => by simp at h⟩
  refine ⟨fun _ => ?_, fun h => by simp at h⟩
  refine Go_ops rfl (OpTo_pcall (v := .int .i64 0) rfl rfl rfl rfl rfl (by kernel_rfl) (fun w hm _ => tick_last_nil w) ?_)
  refine VC_sound tabOk 100 ?_
  refine ⟨fun _ => ?_, fun h => by simp at h⟩
  refine Go_ops rfl (OpTo_pcall (v := .int .i64 0) rfl rfl rfl rfl rfl (by kernel_rfl) (fun w hm _ => tick_trim_nil n w) ?_)
  refine VC_sound tabOk 100 ?_
  refine Go_ops rfl (OpTo_pcall (v := .int .i64 0) rfl rfl rfl rfl rfl (by kernel_rfl) (fun w hm _ => tick_len_nil w) ?_)
  refine VC_sound tabOk 100 ?_
  exact ⟨_, rfl, rfl⟩
end Go.Proofs.Ytkhnnaekinoghaa
