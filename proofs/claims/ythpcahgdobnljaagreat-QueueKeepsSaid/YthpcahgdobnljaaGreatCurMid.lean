/- Cursors: one of them, in the midst. -/
import Derived.Test.YthpcahgdobnljaaGreatMF
set_option maxRecDepth 100000
set_option autoImplicit false
set_option linter.unusedVariables false
set_option linter.unusedSimpArgs false
namespace Go.Proofs.YthpcahgdobnljaaGreat.Cu
open Go.RX Go Go.RowKit
/-! ### one of them -/
theorem blks_mid (cs1 cs2 : Cs) (c : CurV × Nat) : blksOf (cs1 ++ c :: cs2) = blksOf cs1 ++ cuC c.2 c.1 :: blksOf cs2 := by simp [blksOf]
theorem alOf_mid (cs1 cs2 : Cs) (x x' : CurV) (q : Nat) (h : x'.name = x.name) : alOf (cs1 ++ (x', q) :: cs2) = alOf (cs1 ++ (x, q) :: cs2) := by simp [alOf, h]
theorem cuR_mid (b bm : Nat) (cs1 cs2 : Cs) (x x' : CurV) (q : Nat) (h : x'.name = x.name) :
    (cuR b bm (cs1 ++ (x', q) :: cs2)).Perm ((cuC q x' :: cuB b bm (alOf (cs1 ++ (x, q) :: cs2))) ++ (blksOf cs1 ++ blksOf cs2)) := by
  rw [cuR, blks_mid, alOf_mid cs1 cs2 x x' q h, ← List.append_assoc]
  refine (List.perm_middle).trans ?_
  rw [List.append_assoc]
  exact List.Perm.refl _
theorem cuR_lift {f : FuncId} {args : Array Value} {b bm : Nat} {cs1 cs2 : Cs} {x : CurV} {q : Nat} (x' : CurV) {V : Value} (hx : x'.name = x.name)
    (h : ∀ (w0 : World) (hfs : List PH), Mod hfs (cuC q x :: cuB b bm (alOf (cs1 ++ (x, q) :: cs2))) w0 → Calls Tryz.prog f args w0 fun e w' => ∃ v Rs', e = .returned v ∧ (v = V ∧ Rs' = cuC q x' :: cuB b bm (alOf (cs1 ++ (x, q) :: cs2))) ∧ Mod hfs Rs' w' ∧ Oth w0 w')
    (w0 : World) (hfs : List PH) (hm : Mod hfs (cuR b bm (cs1 ++ (x, q) :: cs2)) w0) :
    Calls Tryz.prog f args w0 fun e w' => ∃ v Rs', e = .returned v ∧ (v = V ∧ Rs' = cuR b bm (cs1 ++ (x', q) :: cs2)) ∧ Mod hfs Rs' w' ∧ Oth w0 w' := by
  obtain ⟨hb, h1, h2⟩ := Mod.split (a := cuC q x :: cuB b bm (alOf (cs1 ++ (x, q) :: cs2))) (b := blksOf cs1 ++ blksOf cs2) (hm.permRs (cuR_mid b bm cs1 cs2 x x q rfl))
  refine (h w0 _ h1).mono ?_
  rintro e w' ⟨v, Rs', rfl, ⟨rfl, rfl⟩, hm', hio⟩
  exact ⟨_, _, rfl, ⟨rfl, rfl⟩, (h2 _ _ hm').permRs (cuR_mid b bm cs1 cs2 x x' q hx).symm, hio⟩
theorem cuR_none {f : FuncId} {args : Array Value} {b bm : Nat} {cs : Cs} {V : Value}
    (h : ∀ (w0 : World) (hfs : List PH), Mod hfs (cuB b bm (alOf cs)) w0 → Calls Tryz.prog f args w0 fun e w' => ∃ v Rs', e = .returned v ∧ (v = V ∧ Rs' = cuB b bm (alOf cs)) ∧ Mod hfs Rs' w' ∧ Oth w0 w')
    (w0 : World) (hfs : List PH) (hm : Mod hfs (cuR b bm cs) w0) :
    Calls Tryz.prog f args w0 fun e w' => ∃ v Rs', e = .returned v ∧ (v = V ∧ Rs' = cuR b bm cs) ∧ Mod hfs Rs' w' ∧ Oth w0 w' := by
  obtain ⟨hb, h1, h2⟩ := Mod.split (a := cuB b bm (alOf cs)) (b := blksOf cs) hm
  refine (h w0 _ h1).mono ?_
  rintro e w' ⟨v, Rs', rfl, ⟨rfl, rfl⟩, hm', hio⟩
  exact ⟨_, _, rfl, ⟨rfl, rfl⟩, h2 _ _ hm', hio⟩

end Go.Proofs.YthpcahgdobnljaaGreat.Cu
