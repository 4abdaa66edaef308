/- Go's own sort by a function, of a row that is owned: from the kit's contract to resources. -/
import Derived.Test.YthpcahgdobnljaaGreatRxB
import Derived.Shelf.SlSortCmp.WholeK
set_option maxRecDepth 100000
set_option autoImplicit false
set_option linter.unusedVariables false
set_option linter.unusedSimpArgs false
set_option linter.unusedSectionVars false
namespace Go.Proofs.YthpcahgdobnljaaGreat.Rt
open Go.RX Go Go.RowKit Go.Proofs
open Go.Sort (flatK size_flatK get_flatK HoldsK putRowK PermIn SortedIn)

/-- What a call that only makes memory leaves is the world, so many draws ahead, with blocks more. -/
theorem grow_of_below {W w' : World} (h : BelowD W.heap.size W w') : ∃ q os', w' = Go.Sort.grow (W.drewN q) os' := by
  obtain ⟨⟨h1, h2, h3, h4, h5⟩, h6⟩ := h
  obtain ⟨hp, tp, dr, os, out⟩ := w'
  obtain ⟨hp0, tp0, dr0, os0, out0⟩ := W
  simp only at h1 h2 h3 h4 h5 h6
  subst h1 h2 h3
  refine ⟨dr - dr0, hp.extract hp0.size hp.size, ?_⟩
  have e1 : hp = hp0 ++ hp.extract hp0.size hp.size := by
    apply Array.ext_getElem?
    intro k
    rw [Array.getElem?_append]
    split
    · rename_i hk; exact h5 k hk
    · rename_i hk
      rw [Array.getElem?_extract]
      simp
      by_cases hk2 : k < hp.size
      · rw [if_pos (by omega)]; congr 1; omega
      · rw [if_neg (by omega), Array.getElem?_eq_none (by omega)]
  have e2 : dr = dr0 + (dr - dr0) := by omega
  show World.mk hp tp dr os out = World.mk (hp0 ++ hp.extract hp0.size hp.size) tp (dr0 + (dr - dr0)) os out
  rw [← e1, ← e2]

theorem flatK_list {α : Type} [Inhabited α] {enc : α → List Value} {k : Nat} (he : IsEnc enc k) (d : Array α) : (flatK enc k d).toList = d.toList.flatMap enc := by
  have hl := he.flat_len d.toList
  have hp := he.pos
  apply List.ext_getElem?
  intro t
  by_cases ht : t < d.size * k
  · have hq : t / k < d.size := Nat.div_lt_of_lt_mul (by rw [Nat.mul_comm]; exact ht)
    have hm : t % k < k := Nat.mod_lt _ hp
    have h1 : d.toList[t / k]? = some d[t / k] := by simp [hq]
    have h2 : (enc d[t / k])[t % k]? = some ((enc d[t / k])[t % k]'(by rw [he.len]; exact hm)) := List.getElem?_eq_getElem _
    have h3 := he.flat_at h1 _ _ h2
    rw [show t / k * k + t % k = t from by rw [Nat.mul_comm]; exact Nat.div_add_mod t k] at h3
    rw [h3]
    have h4 := get_flatK enc k d t ht
    have hs : t < (flatK enc k d).size := by rw [size_flatK]; exact ht
    rw [getElem!_pos _ t hs, getElem!_pos d (t / k) hq, getElem!_pos _ (t % k) (by rw [he.len]; exact hm)] at h4
    rw [Array.getElem?_toList, Array.getElem?_eq_getElem hs, h4]
  · rw [List.getElem?_eq_none (by simp; omega), List.getElem?_eq_none (by rw [hl]; simp; omega)]

theorem putCells_mid (pre fl tl : List Value) (F : Array Value) (h : F.size = fl.length) : Go.Sort.putCells id pre.length F (pre ++ fl ++ tl).toArray = (pre ++ F.toList ++ tl).toArray := by
  apply Array.ext_getElem?
  intro k
  simp only [Go.Sort.putCells, Array.getElem?_mapIdx, List.getElem?_toArray, List.append_assoc]
  by_cases h1 : k < pre.length
  · rw [List.getElem?_append_left h1, List.getElem?_append_left h1, List.getElem?_eq_getElem h1]
    simp; omega
  · have a1 : (pre ++ (fl ++ tl))[k]? = (fl ++ tl)[k - pre.length]? := List.getElem?_append_right (by omega)
    have a2 : (pre ++ (F.toList ++ tl))[k]? = (F.toList ++ tl)[k - pre.length]? := List.getElem?_append_right (by omega)
    rw [a1, a2]
    by_cases h2 : k - pre.length < fl.length
    · have hk : k - pre.length < F.size := by omega
      rw [List.getElem?_append_left h2, List.getElem?_append_left (by simpa using hk), List.getElem?_eq_getElem h2]
      simp only [Option.map_some, id]
      rw [if_pos (by omega), getElem!_pos F _ hk]
      simp [hk]
    · have a3 : (fl ++ tl)[k - pre.length]? = tl[k - pre.length - fl.length]? := List.getElem?_append_right (by omega)
      have a4 : (F.toList ++ tl)[k - pre.length]? = tl[k - pre.length - F.toList.length]? := List.getElem?_append_right (by simp; omega)
      rw [a3, a4]
      simp only [Array.length_toList, h]
      cases hh : tl[k - pre.length - fl.length]? with
      | none => rfl
      | some v =>
        simp only [Option.map_some]
        rw [if_neg (by omega)]

section
variable {α : Type} [Inhabited α] {enc : α → List Value} {k : Nat}

/-- The row as the kit's contract asks for it, and what the contract leaves. -/
theorem sort_bridge (he : IsEnc enc k) {T : TypeId} {c b o : Nat} {xs : List α} {hfs : List PH} {w0 : World} (hne : xs ≠ []) (hm : Mod hfs [own enc k T (some ⟨b, o, none⟩) c xs] w0) :
    HoldsK enc k w0 b o xs.toArray ∧ b < w0.heap.size ∧ ∀ (n : Nat) (d' : Array α) (os : Array Obj), d'.size = xs.length → Mod hfs [own enc k T (some ⟨b, o, none⟩) c d'.toList] (sortWorldK enc k w0 b o n d' os) ∧ Oth w0 (sortWorldK enc k w0 b o n d' os) := by
  obtain ⟨h, h1, h2, hset⟩ := hm.open_ (i := 0) rfl
  rcases h1 with ⟨h1, _⟩ | ⟨b', pre, tl, h3, h4, h5, h6, h7⟩
  · exact absurd h1 hne
  obtain ⟨rfl, rfl⟩ : b = b' ∧ o = pre.length := by simpa using h3
  have hb : w0.heap[b]? = some (.cells (pre ++ xs.flatMap enc ++ tl).toArray T (0, 0)) := h2 b _ (by rw [h4]; exact RX.one_same _ _)
  have hlt : b < w0.heap.size := (Array.getElem?_eq_some_iff.1 hb).1
  have hF : (flatK enc k xs.toArray).toList = xs.flatMap enc := by rw [flatK_list he]
  have hlen : (flatK enc k xs.toArray).size = (xs.flatMap enc).length := by rw [← hF]; simp
  refine ⟨fun j hj => ⟨?_, ?_⟩, hlt, fun n d' os hd => ?_⟩
  · have hjl : j < (xs.flatMap enc).length := by omega
    have e : (flatK enc k xs.toArray)[j]? = (xs.flatMap enc)[j]? := by rw [← hF]; simp
    rw [getElem!_pos _ j hj]
    have e2 : some ((flatK enc k xs.toArray)[j]) = (xs.flatMap enc)[j]? := by rw [← e, Array.getElem?_eq_getElem hj]
    simp only [World.cell?, hb, id, e2]
    simp only [Option.isSome_none, Bool.false_eq_true, if_false, List.getElem?_toArray, List.append_assoc]
    rw [List.getElem?_append_right (by omega), Nat.add_sub_cancel_left, List.getElem?_append_left hjl]
  · simp [World.frozen?, hb]
  · have hF' : (flatK enc k d').toList = d'.toList.flatMap enc := flatK_list he d'
    have hsz : (flatK enc k d').size = (xs.flatMap enc).length := by
      rw [size_flatK, hd, he.flat_len]
    have hheap : (sortWorldK enc k w0 b pre.length n d' os).heap = w0.heap.modify b (Go.Sort.onCells (Go.Sort.putCells id pre.length (flatK enc k d'))) ++ os := rfl
    have hget : ∀ m, m < w0.heap.size → (sortWorldK enc k w0 b pre.length n d' os).heap[m]? = if b = m then (w0.heap[m]?).map (Go.Sort.onCells (Go.Sort.putCells id pre.length (flatK enc k d'))) else w0.heap[m]? := fun m hm' => by
      rw [hheap, Array.getElem?_append_left (by simpa using hm'), Array.getElem?_modify]
    refine ⟨hset (own enc k T (some ⟨b, pre.length, none⟩) c d'.toList) (RX.one b (.cells (pre ++ d'.toList.flatMap enc ++ tl).toArray T (0, 0))) _ (.inr ⟨b, pre, tl, rfl, rfl, by simpa [hd] using h5, by simpa [hd] using h6, h7⟩) (Sub.one ?_) (fun m hm1 hm0 => ?_), ⟨rfl, rfl, rfl, ?_, Nat.le_add_right _ _⟩⟩
    · rw [hget b hlt, if_pos rfl, hb]
      simp only [Option.map_some, Go.Sort.onCells]
      rw [putCells_mid pre (xs.flatMap enc) tl _ hsz, hF']
    · have hne2 : m ≠ b := fun e => by subst e; rw [h4, RX.one_same] at hm0; cases hm0
      exact ⟨by rw [hget m hm1, if_neg (Ne.symm hne2)], RX.one_ne _ hne2⟩
    · rw [hheap]; simp

theorem sameBy_of_perm {κ : Type} [DecidableEq κ] {key : α → κ} {xs ys : List α} (h : xs.Perm ys) (hn : (xs.map key).Nodup) : SameBy key xs ys := fun q => by
  have hp := h.filter fun x => decide (key x = q)
  have hle : (xs.filter fun x => decide (key x = q)).length ≤ 1 := by
    clear hp h
    induction xs with
    | nil => simp
    | cons x r ih =>
      simp only [List.map_cons, List.nodup_cons] at hn
      by_cases hx : key x = q
      · have : (r.filter fun x => decide (key x = q)) = [] := by
          rw [List.filter_eq_nil_iff]
          intro y hy hq
          exact hn.1 (hx ▸ (of_decide_eq_true hq) ▸ List.mem_map_of_mem hy)
        simp [List.filter_cons, hx, this]
      · simpa [List.filter_cons, hx] using ih hn.2
  match hh : (xs.filter fun x => decide (key x = q)), hle with
  | [], _ => rw [hh] at hp; exact (List.nil_perm.1 hp).symm
  | [x], _ => rw [hh] at hp; exact List.singleton_perm.1 hp

set_option maxHeartbeats 1000000 in
/-- Go's own sort of a row that is owned. -/
theorem sortFunc_mod {P : Program} {ρ : Go.Shelf.Ren} (L : SlLaysF0.n6 P ρ) (he : IsEnc enc k) (aE : ∀ w, (isAgg (ρ.t 24)).run P w = .ok true w) (zE : ∀ w, (Go.sizeOf (ρ.t 24)).run P w = .ok k w) (h1 : ∀ x, ∀ v ∈ enc x, v.oneCell' = true)
    {κ : Type} {lt : κ → κ → Bool} (ord : Ord lt) {key : α → κ} {cf : α → α → Int} (hcf : Cmps lt key cf) (g : Nat) (hg : callable P g = true) (hans : AnsC P g #[] #[] (fun x => .agg (enc x).toArray) cf)
    {T : TypeId} {A : Option Addr} {c : Nat} {xs : List α} {hfs : List PH} {w0 : World} (hne : xs ≠ []) (hl : xs.length ≤ 1000000) (hm : Mod hfs [own enc k T A c xs] w0) :
    Calls P (ρ.f 6) #[.slice A xs.length c, .func (.func g) #[] #[]] w0 fun e w' => ∃ v Rs', e = .returned v ∧ (v = .tuple #[] ∧ ∃ ys, xs.Perm ys ∧ Rise lt key ys ∧ Rs' = [own enc k T A c ys]) ∧ Mod hfs Rs' w' ∧ Oth w0 w' := by
  obtain ⟨b, o, rfl⟩ := hm.own_some (i := 0) rfl hne
  obtain ⟨b1, b2, b3⟩ := sort_bridge he hne hm
  have hlt : ∀ x y, ltOf cf x y = lt (key x) (key y) := fun x y => hcf x y
  have hO : Go.Sort.SWO (ltOf cf) := ⟨fun x => by rw [hlt]; exact ord.irr _, fun x y z h1 h2 => by rw [hlt] at *; exact ord.trans _ _ _ h1 h2, fun x y z h1 h2 => by rw [hlt] at *; exact ord.le_trans h2 h1⟩
  have hcmp : CmpLays P g #[] enc k cf b o xs.toArray.size w0 := fun m os dk hd x y => (hans x y _).mono fun e w' ⟨h1, h2⟩ => ⟨h1, grow_of_below h2⟩
  have h := AnyQ.slices_SortFunc L k aE zE enc he.len h1 cf hO g #[] b o c xs.toArray w0 (fun args w => run_callFunc hg args w) hcmp b1 b2 (by simp; omega)
  rw [List.size_toArray] at h
  refine h.mono fun e w' ⟨he', d', n, os, hp, hs, hw⟩ => ?_
  obtain ⟨hp1, _, hp3⟩ := hp
  have hp1 : d'.size = xs.length := by simpa using hp1
  subst hw
  obtain ⟨m1, m2⟩ := b3 n d' os hp1
  refine ⟨_, _, he', ⟨rfl, d'.toList, ?_, ?_, rfl⟩, m1, m2⟩
  · have e1 : (d'.extract 0 xs.length).toList = d'.toList := by rw [← hp1]; simp
    have e2 : (xs.toArray.extract 0 xs.length).toList = xs := by simp
    rw [e1, e2] at hp3
    exact hp3.symm
  · rw [Rise, List.pairwise_iff_getElem]
    intro i j hi hj hij
    have := hs i j (Nat.zero_le _) hij (by simpa [hp1] using hj)
    rw [hlt, getElem!_pos d' j (by simpa using hj), getElem!_pos d' i (by simpa using hi)] at this
    simpa using this
end
end Go.Proofs.YthpcahgdobnljaaGreat.Rt
