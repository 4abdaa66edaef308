/- RX, part 19: what a stable sort by blocks and merges keeps. No program. -/
import Derived.Test.YthpcahgdobnljaaGreatRxSort
set_option autoImplicit false
set_option linter.unusedVariables false
set_option linter.unusedSectionVars false
set_option linter.unusedSimpArgs false
namespace Go.RX
open Go Go.RowKit

/-- What a function value that compares answers, in every world. -/
def AnsC {α : Type} (P : Program) (f : FuncId) (first cap : Array Value) (mk : α → Value) (cp : α → α → Int) : Prop :=
  ∀ (x y : α) (w : World), Calls P f (first.toList ++ [mk x, mk y] ++ cap.toList).toArray w fun e w' => e = .returned (.int .i64 (cp x y)) ∧ BelowD w.heap.size w w'

/-- The sign of what is answered says the order. -/
def Cmps {κ α : Type} (lt : κ → κ → Bool) (key : α → κ) (cp : α → α → Int) : Prop := ∀ x y, decide (cp x y < 0) = lt (key x) (key y)

section
variable {α : Type}
theorem get_mid {P Q : List α} {x : α} {n : Nat} (h : n = P.length) : (P ++ x :: Q)[n]? = some x := by subst h; simp
theorem set_mid {P Q : List α} {x y : α} {n : Nat} (h : n = P.length) : (P ++ x :: Q).set n y = P ++ y :: Q := by subst h; simp
theorem get_in {P X S : List α} {i : Nat} (h : i < X.length) : (P ++ X ++ S)[P.length + i]? = some X[i] := by
  rw [List.append_assoc, List.getElem?_append_right (by omega), Nat.add_sub_cancel_left, List.getElem?_append_left h, List.getElem?_eq_getElem h]
theorem set_in {P X S : List α} {i : Nat} {u : α} (h : i < X.length) : (P ++ X ++ S).set (P.length + i) u = P ++ X.set i u ++ S := by
  rw [List.append_assoc, List.set_append_right _ _ (by omega), Nat.add_sub_cancel_left, List.set_append_left _ _ h, List.append_assoc]
theorem len_in {P X S : List α} {i : Nat} (h : i < X.length) : P.length + i < (P ++ X ++ S).length := by simp; omega

/-- 'x' stands behind 'j' of them. -/
def put (P : List α) (x : α) (V S : List α) (j : Nat) : List α := P ++ (V.take j ++ x :: V.drop j) ++ S
theorem put_len {P V S : List α} {x : α} {j : Nat} (h : j ≤ V.length) : (put P x V S j).length = P.length + V.length + 1 + S.length := by simp [put]; omega
theorem put_get {P V S : List α} {x : α} {j : Nat} (h : j ≤ V.length) : (put P x V S j)[P.length + j]? = some x := by
  have e : put P x V S j = (P ++ V.take j) ++ x :: (V.drop j ++ S) := by simp [put]
  rw [e]; exact get_mid (by simp; omega)
theorem put_get1 {P V S : List α} {x : α} {j : Nat} (h : j < V.length) : (put P x V S j)[P.length + j + 1]? = some V[j] := by
  have e : put P x V S j = (P ++ V.take j ++ [x]) ++ V[j] :: (V.drop (j + 1) ++ S) := by
    simp only [put, List.drop_eq_getElem_cons h, List.append_assoc, List.cons_append, List.nil_append, List.singleton_append]
  rw [e]; exact get_mid (by simp; omega)
theorem put_get0 {P V S : List α} {x : α} {j : Nat} (h : j < V.length) : (put P x V S (j + 1))[P.length + j]? = some V[j] := by
  have e : put P x V S (j + 1) = (P ++ V.take j) ++ V[j] :: (x :: V.drop (j + 1) ++ S) := by
    simp only [put, List.take_succ_eq_append_getElem h, List.append_assoc, List.cons_append, List.nil_append, List.singleton_append]
  rw [e]; exact get_mid (by simp; omega)
/-- Up. -/
theorem put_up {P V S : List α} {x : α} {j : Nat} (h : j < V.length) : ((put P x V S j).set (P.length + j) V[j]).set (P.length + j + 1) x = put P x V S (j + 1) := by
  have e : put P x V S j = (P ++ V.take j) ++ x :: V[j] :: (V.drop (j + 1) ++ S) := by
    simp only [put, List.drop_eq_getElem_cons h, List.append_assoc, List.cons_append, List.nil_append]
  have e2 : put P x V S (j + 1) = (P ++ V.take j) ++ V[j] :: x :: (V.drop (j + 1) ++ S) := by
    simp only [put, List.take_succ_eq_append_getElem h, List.append_assoc, List.cons_append, List.nil_append, List.singleton_append]
  have hl : P.length + j = (P ++ V.take j).length := by simp; omega
  rw [e, set_mid hl, e2]
  have e3 : (P ++ V.take j) ++ V[j] :: V[j] :: (V.drop (j + 1) ++ S) = (P ++ V.take j ++ [V[j]]) ++ V[j] :: (V.drop (j + 1) ++ S) := by simp only [List.append_assoc, List.cons_append, List.nil_append]
  rw [e3, set_mid (by simp; omega)]
  simp only [List.append_assoc, List.cons_append, List.nil_append]
/-- Down. -/
theorem put_down {P V S : List α} {x : α} {j : Nat} (h : j < V.length) : ((put P x V S (j + 1)).set (P.length + (j + 1)) V[j]).set (P.length + j) x = put P x V S j := by
  have e : put P x V S j = (P ++ V.take j) ++ x :: V[j] :: (V.drop (j + 1) ++ S) := by
    simp only [put, List.drop_eq_getElem_cons h, List.append_assoc, List.cons_append, List.nil_append]
  have e2 : put P x V S (j + 1) = (P ++ V.take j ++ [V[j]]) ++ x :: (V.drop (j + 1) ++ S) := by
    simp only [put, List.take_succ_eq_append_getElem h, List.append_assoc, List.cons_append, List.nil_append, List.singleton_append]
  rw [e2, set_mid (by simp; omega), e]
  have e3 : (P ++ V.take j ++ [V[j]]) ++ V[j] :: (V.drop (j + 1) ++ S) = (P ++ V.take j) ++ V[j] :: V[j] :: (V.drop (j + 1) ++ S) := by simp only [List.append_assoc, List.cons_append, List.nil_append]
  rw [e3, set_mid (by simp; omega)]

/-- The first 'i' of two rows that are as long are exchanged. -/
def swp (P X M Y S : List α) (i : Nat) : List α := P ++ (Y.take i ++ X.drop i) ++ M ++ (X.take i ++ Y.drop i) ++ S
theorem swp_len {P X M Y S : List α} {i : Nat} (h : X.length = Y.length) (hi : i ≤ X.length) : (swp P X M Y S i).length = P.length + X.length + M.length + Y.length + S.length := by simp [swp]; omega
theorem swp_get1 {P X M Y S : List α} {i : Nat} (h : X.length = Y.length) (hi : i < X.length) : (swp P X M Y S i)[P.length + i]? = some X[i] := by
  have e : swp P X M Y S i = (P ++ Y.take i) ++ X[i] :: (X.drop (i + 1) ++ M ++ (X.take i ++ Y.drop i) ++ S) := by
    simp only [swp, List.drop_eq_getElem_cons hi, List.append_assoc, List.cons_append, List.nil_append]
  rw [e]; exact get_mid (by simp; omega)
theorem swp_get2 {P X M Y S : List α} {i : Nat} (h : X.length = Y.length) (hi : i < X.length) (hj : i < Y.length) : (swp P X M Y S i)[P.length + X.length + M.length + i]? = some Y[i] := by
  have e : swp P X M Y S i = (P ++ (Y.take i ++ X.drop i) ++ M ++ X.take i) ++ Y[i] :: (Y.drop (i + 1) ++ S) := by
    simp only [swp, List.drop_eq_getElem_cons hj, List.append_assoc, List.cons_append, List.nil_append]
  rw [e]; exact get_mid (by simp; omega)
theorem swp_step {P X M Y S : List α} {i : Nat} (h : X.length = Y.length) (hi : i < X.length) (hj : i < Y.length) :
    ((swp P X M Y S i).set (P.length + i) Y[i]).set (P.length + X.length + M.length + i) X[i] = swp P X M Y S (i + 1) := by
  have e : swp P X M Y S i = (P ++ Y.take i) ++ X[i] :: (X.drop (i + 1) ++ M ++ (X.take i ++ Y.drop i) ++ S) := by
    simp only [swp, List.drop_eq_getElem_cons hi, List.append_assoc, List.cons_append, List.nil_append]
  rw [e, set_mid (by simp; omega)]
  have e3 : (P ++ Y.take i) ++ Y[i] :: (X.drop (i + 1) ++ M ++ (X.take i ++ Y.drop i) ++ S) = (P ++ (Y.take i ++ [Y[i]]) ++ X.drop (i + 1) ++ M ++ X.take i) ++ Y[i] :: (Y.drop (i + 1) ++ S) := by
    conv => lhs; rw [List.drop_eq_getElem_cons hj]
    simp only [List.append_assoc, List.cons_append, List.nil_append]
  rw [e3, set_mid (by simp; omega)]
  simp only [swp, List.take_succ_eq_append_getElem hi, List.take_succ_eq_append_getElem hj, List.append_assoc, List.cons_append, List.nil_append, List.singleton_append]
theorem swp_zero {P X M Y S : List α} : swp P X M Y S 0 = P ++ X ++ M ++ Y ++ S := by simp [swp]
theorem swp_full {P X M Y S : List α} {n : Nat} (h : X.length = n) (h' : Y.length = n) : swp P X M Y S n = P ++ Y ++ M ++ X ++ S := by
  simp [swp, List.take_of_length_le (Nat.le_of_eq h), List.take_of_length_le (Nat.le_of_eq h'), List.drop_eq_nil_of_le (Nat.le_of_eq h), List.drop_eq_nil_of_le (Nat.le_of_eq h')]
end

section
variable {κ α : Type} {lt : κ → κ → Bool} [DecidableEq κ] {key : α → κ}

theorem SameBy.append {xs ys zs ws : List α} (h : SameBy key xs ys) (h' : SameBy key zs ws) : SameBy key (xs ++ zs) (ys ++ ws) := fun k => by rw [List.filter_append, List.filter_append, h k, h' k]
/-- Two rows whose keys are apart may be exchanged. -/
theorem SameBy.comm {xs ys : List α} (h : ∀ x ∈ xs, ∀ y ∈ ys, key x ≠ key y) : SameBy key (xs ++ ys) (ys ++ xs) := by
  intro k
  simp only [List.filter_append]
  by_cases hx : ∃ x ∈ xs, key x = k
  · obtain ⟨x, hx, rfl⟩ := hx
    have : ys.filter (fun y => decide (key y = key x)) = [] := List.filter_eq_nil_iff.2 fun y hy => by simpa using fun e => h x hx y hy e.symm
    simp [this]
  · have : xs.filter (fun x => decide (key x = k)) = [] := List.filter_eq_nil_iff.2 fun x h' => by simpa using fun e => hx ⟨x, h', e⟩
    simp [this]

theorem Rise.append {xs ys : List α} (h1 : Rise lt key xs) (h2 : Rise lt key ys) (h : ∀ x ∈ xs, ∀ y ∈ ys, lt (key y) (key x) = false) : Rise lt key (xs ++ ys) := List.pairwise_append.2 ⟨h1, h2, h⟩
theorem Rise.left {xs ys : List α} (h : Rise lt key (xs ++ ys)) : Rise lt key xs := (List.pairwise_append.1 h).1
theorem Rise.right {xs ys : List α} (h : Rise lt key (xs ++ ys)) : Rise lt key ys := (List.pairwise_append.1 h).2.1
theorem Rise.across {xs ys : List α} (h : Rise lt key (xs ++ ys)) : ∀ x ∈ xs, ∀ y ∈ ys, lt (key y) (key x) = false := (List.pairwise_append.1 h).2.2
theorem Rise.take {xs : List α} (h : Rise lt key xs) (n : Nat) : Rise lt key (xs.take n) := by
  have := h; rw [← List.take_append_drop n xs] at this; exact this.left
theorem Rise.drop {xs : List α} (h : Rise lt key xs) (n : Nat) : Rise lt key (xs.drop n) := by
  have := h; rw [← List.take_append_drop n xs] at this; exact this.right
theorem Rise.at_ (o : Ord lt) {xs : List α} (h : Rise lt key xs) {i j : Nat} {a b : α} (ha : xs[i]? = some a) (hb : xs[j]? = some b) (hij : i ≤ j) : lt (key b) (key a) = false := by
  obtain ⟨h1, rfl⟩ := List.getElem?_eq_some_iff.1 ha
  obtain ⟨h2, rfl⟩ := List.getElem?_eq_some_iff.1 hb
  rcases Nat.lt_or_eq_of_le hij with hlt | rfl
  · exact List.pairwise_iff_getElem.1 h i j h1 h2 hlt
  · exact o.irr _

theorem Ord.lt_of_le_lt (o : Ord lt) {a b c : κ} (h1 : lt b a = false) (h2 : lt b c = true) : lt a c = true := by
  cases h : lt a c with
  | true => rfl
  | false => have := o.le_trans h h1; rw [h2] at this; cases this
theorem Ord.lt_of_lt_le (o : Ord lt) {a b c : κ} (h1 : lt a b = true) (h2 : lt c b = false) : lt a c = true := by
  cases h : lt a c with
  | true => rfl
  | false => have := o.le_trans h2 h; rw [h1] at this; cases this

theorem mem_take_at {xs : List α} {n : Nat} {x : α} (h : x ∈ xs.take n) : ∃ i, i < n ∧ xs[i]? = some x := by
  obtain ⟨i, hi, e⟩ := List.mem_take_iff_getElem.1 h
  exact ⟨i, by omega, e ▸ List.getElem?_eq_getElem _⟩
theorem mem_drop_at {xs : List α} {n : Nat} {x : α} (h : x ∈ xs.drop n) : ∃ i, n ≤ i ∧ xs[i]? = some x := by
  obtain ⟨i, hi⟩ := List.mem_iff_getElem?.1 h
  rw [List.getElem?_drop] at hi
  exact ⟨n + i, by omega, hi⟩

/-- Where two rising rows are cut. -/
theorem cut_le (o : Ord lt) {U V : List α} {t u : Nat} (hU : Rise lt key U) (hV : Rise lt key V)
    (h : t = 0 ∨ V.length ≤ u ∨ ∃ x y, U[t - 1]? = some x ∧ V[u]? = some y ∧ lt (key y) (key x) = false) : ∀ x ∈ U.take t, ∀ y ∈ V.drop u, lt (key y) (key x) = false := by
  intro x hx y hy
  obtain ⟨i, hi, ex⟩ := mem_take_at hx
  obtain ⟨j, hj, ey⟩ := mem_drop_at hy
  rcases h with rfl | h | ⟨x', y', h1, h2, h3⟩
  · omega
  · have := (List.getElem?_eq_some_iff.1 ey).1; omega
  · exact o.le_trans (hU.at_ o ex h1 (by omega)) (o.le_trans h3 (hV.at_ o h2 ey hj))
theorem cut_lt (o : Ord lt) {U V : List α} {t u : Nat} (hU : Rise lt key U) (hV : Rise lt key V)
    (h : U.length ≤ t ∨ u = 0 ∨ ∃ x y, U[t]? = some x ∧ V[u - 1]? = some y ∧ lt (key y) (key x) = true) : ∀ y ∈ V.take u, ∀ x ∈ U.drop t, lt (key y) (key x) = true := by
  intro y hy x hx
  obtain ⟨i, hi, ex⟩ := mem_drop_at hx
  obtain ⟨j, hj, ey⟩ := mem_take_at hy
  rcases h with h | rfl | ⟨x', y', h1, h2, h3⟩
  · have := (List.getElem?_eq_some_iff.1 ex).1; omega
  · omega
  · exact o.lt_of_le_lt (hV.at_ o ey h2 (by omega)) (o.lt_of_lt_le h3 (hU.at_ o h1 ex hi))

/-- Both halves merged: all is merged. -/
theorem merge_ok (o : Ord lt) {A1 A2 B1 B2 W1 W2 : List α} (hU : Rise lt key (A1 ++ A2)) (hV : Rise lt key (B1 ++ B2)) (h1 : ∀ x ∈ A1, ∀ y ∈ B2, lt (key y) (key x) = false) (h2 : ∀ y ∈ B1, ∀ x ∈ A2, lt (key y) (key x) = true)
    (s1 : SameBy key (A1 ++ B1) W1) (r1 : Rise lt key W1) (s2 : SameBy key (A2 ++ B2) W2) (r2 : Rise lt key W2) : SameBy key (A1 ++ A2 ++ (B1 ++ B2)) (W1 ++ W2) ∧ Rise lt key (W1 ++ W2) := by
  constructor
  · have e : A1 ++ A2 ++ (B1 ++ B2) = A1 ++ ((A2 ++ B1) ++ B2) := by simp
    have e2 : A1 ++ ((B1 ++ A2) ++ B2) = (A1 ++ B1) ++ (A2 ++ B2) := by simp
    rw [e]
    refine SameBy.trans ((SameBy.refl _ A1).append ((SameBy.comm fun x hx y hy hk => ?_).append (SameBy.refl _ B2))) ?_
    · have := h2 y hy x hx; rw [hk, o.irr] at this; cases this
    · rw [e2]; exact s1.append s2
  · refine r1.append r2 fun x hx y hy => ?_
    rcases List.mem_append.1 ((s1.mem x).2 hx) with hx | hx <;> rcases List.mem_append.1 ((s2.mem y).2 hy) with hy | hy
    · exact hU.across x hx y hy
    · exact h1 x hx y hy
    · exact o.asym (h2 x hx y hy)
    · exact hV.across x hx y hy

/-- One is put into a rising row. -/
theorem put_ok (o : Ord lt) {x : α} {V : List α} {t : Nat} (hV : Rise lt key V) (h1 : ∀ y ∈ V.take t, lt (key y) (key x) = true) (h2 : ∀ y ∈ V.drop t, lt (key y) (key x) = false) :
    SameBy key (x :: V) (V.take t ++ x :: V.drop t) ∧ Rise lt key (V.take t ++ x :: V.drop t) := by
  constructor
  · have e : x :: V = ([x] ++ V.take t) ++ V.drop t := by simp
    have e2 : V.take t ++ x :: V.drop t = (V.take t ++ [x]) ++ V.drop t := by simp
    rw [e, e2]
    refine (SameBy.comm fun a ha y hy hk => ?_).append (SameBy.refl _ _)
    have := h1 y hy
    simp at ha; subst ha
    rw [hk, o.irr] at this; cases this
  · refine (hV.take t).append (List.pairwise_cons.2 ⟨h2, hV.drop t⟩) fun a ha y hy => ?_
    rcases List.mem_cons.1 hy with rfl | hy
    · exact o.asym (h1 a ha)
    · have := hV; rw [← List.take_append_drop t V] at this
      exact this.across a ha y hy
theorem put_ok' (o : Ord lt) {x : α} {U : List α} {t : Nat} (hU : Rise lt key U) (h1 : ∀ y ∈ U.take t, lt (key x) (key y) = false) (h2 : ∀ y ∈ U.drop t, lt (key x) (key y) = true) :
    SameBy key (U ++ [x]) (U.take t ++ x :: U.drop t) ∧ Rise lt key (U.take t ++ x :: U.drop t) := by
  constructor
  · have e : U ++ [x] = U.take t ++ (U.drop t ++ [x]) := by rw [← List.append_assoc, List.take_append_drop]
    have e2 : U.take t ++ x :: U.drop t = U.take t ++ ([x] ++ U.drop t) := by simp
    rw [e, e2]
    refine (SameBy.refl _ _).append (SameBy.comm fun y hy a ha hk => ?_)
    have := h2 y hy
    simp at ha; subst ha
    rw [hk, o.irr] at this; cases this
  · refine (hU.take t).append (List.pairwise_cons.2 ⟨fun y hy => o.asym (h2 y hy), hU.drop t⟩) fun a ha y hy => ?_
    rcases List.mem_cons.1 hy with rfl | hy
    · exact h1 a ha
    · have := hU; rw [← List.take_append_drop t U] at this
      exact this.across a ha y hy

/-! ### blocks -/
/-- Each block of 'bs' rises. -/
def Chk (lt : κ → κ → Bool) (key : α → κ) (bs : Nat) (ys : List α) : Prop := ∀ k, Rise lt key ((ys.drop (k * bs)).take bs)

theorem Chk.nil (bs : Nat) : Chk lt key bs ([] : List α) := fun k => by simp [Rise]
theorem Chk.head {bs : Nat} {ys : List α} (h : Chk lt key bs ys) : Rise lt key (ys.take bs) := by simpa using h 0
theorem Chk.tail {bs : Nat} {ys : List α} (h : Chk lt key bs ys) : Chk lt key bs (ys.drop bs) := fun k => by
  have := h (k + 1)
  rw [List.drop_drop, show bs + k * bs = (k + 1) * bs from by rw [Nat.add_mul]; omega]
  exact this
theorem Chk.one {bs : Nat} {W : List α} (h : Rise lt key W) (hw : W.length ≤ bs) : Chk lt key bs W := fun k => by
  cases k with
  | zero => simpa using h.take bs
  | succ k =>
    rw [List.drop_eq_nil_of_le (by rw [Nat.add_mul]; omega)]
    simp [Rise]
theorem Chk.append {bs q : Nat} {D W : List α} (hD : Chk lt key bs D) (hq : D.length = q * bs) (hW : Chk lt key bs W) : Chk lt key bs (D ++ W) := fun k => by
  by_cases hk : k < q
  · have : (k + 1) * bs ≤ q * bs := Nat.mul_le_mul_right _ hk
    rw [Nat.add_mul, Nat.one_mul] at this
    rw [List.drop_append_of_le_length (by omega), List.take_append_of_le_length (by simp; omega)]
    exact hD k
  · have e : k * bs = D.length + (k - q) * bs := by
      rw [hq, ← Nat.add_mul]; congr 1; omega
    rw [e, ← List.drop_drop, List.drop_left]
    exact hW (k - q)
end

/-! ### walking -/
/-- A place where ways come together, shown last. -/
theorem Go_join {E : Env} {k : List KI} {σ : Type} (Lf : σ → L) (Rf : σ → List Res) (Inv : σ → Prop) {X : Prop} (main : (∀ s, Inv s → ∀ l Rs, subL (Lf s) l → (∀ w, Mod E.hfs Rs w → Mod E.hfs (Rf s) w) → Go E k l Rs) → X) (rest : ∀ s, Inv s → Go E k (Lf s) (Rf s)) : X :=
  main fun s hs l Rs hl hR a w hf hm hio => rest s hs a w (subL_sound hl hf) (hR w hm) hio
theorem run_shr1 {P : Program} {t : TypeId} {x y : Operand} (n : Int) (w : World) : (binRun .shr t x y (.int .u64 n) (.int .u64 1)).run P w = .ok (.int .u64 (n / 2)) w := by
  simp [binRun, eqGuard_int, binOp, Op.shift, IntKind.bits, Int.fdiv_eq_ediv_of_nonneg]
end Go.RX
