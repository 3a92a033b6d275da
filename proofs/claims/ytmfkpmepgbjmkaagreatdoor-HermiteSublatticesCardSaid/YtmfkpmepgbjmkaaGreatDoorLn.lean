/-
  PLAIN MATHEMATICS: lines (a row of integers with the multiples of the original rows that it is the sum of), and what a sweep and an echelon do to them.
-/
import Derived.Test.YtmfkpmepgbjmkaaGreatDoorHnf
set_option linter.unusedVariables false
set_option linter.unusedSimpArgs false
namespace Go.Proofs.YtmfkpmepgbjmkaaGreatDoor.Ln
open Go.Proofs.YtmfkpmepgbjmkaaGreatDoor.Hnf

abbrev Ln := List Int × List Int
/-- A line as one row: the elements, and behind them the multiples. -/
def row (n : Nat) (l : Ln) : Row := fun j => if j < n then l.1.getD j 0 else l.2.getD (j - n) 0
def sub (k : Int) (a b : List Int) : List Int := List.zipWith (fun x y => x - k * y) a b
def less (k : Int) (a b : Ln) : Ln := (sub k a.1 b.1, sub k a.2 b.2)
def turn (a : Ln) : Ln := (a.1.map (fun x => -x), a.2.map (fun x => -x))

theorem sub_length {k : Int} {a b : List Int} (h : b.length = a.length) : (sub k a b).length = a.length := by simp [sub, h]
theorem sub_getD {k : Int} {a b : List Int} (h : b.length = a.length) (i : Nat) : (sub k a b).getD i 0 = a.getD i 0 - k * b.getD i 0 := by
  unfold sub
  rw [List.getD_eq_getElem?_getD, List.getD_eq_getElem?_getD, List.getD_eq_getElem?_getD, List.getElem?_zipWith]
  by_cases hi : i < a.length
  · rw [List.getElem?_eq_getElem hi, List.getElem?_eq_getElem (by omega)]
    simp
  · rw [List.getElem?_eq_none (by omega), List.getElem?_eq_none (by omega)]
    simp
theorem neg_getD (a : List Int) (i : Nat) : (a.map (fun x => -x)).getD i 0 = - a.getD i 0 := by
  rw [List.getD_eq_getElem?_getD, List.getD_eq_getElem?_getD, List.getElem?_map]
  cases a[i]? <;> simp

/-- All lines have n elements and m multiples. -/
def Sized (n m : Nat) (l : Ln) : Prop := l.1.length = n ∧ l.2.length = m
theorem Sized.less {n m : Nat} {k : Int} {a b : Ln} (ha : Sized n m a) (hb : Sized n m b) : Sized n m (less k a b) :=
  ⟨(sub_length (by rw [hb.1, ha.1])).trans ha.1, (sub_length (by rw [hb.2, ha.2])).trans ha.2⟩
theorem Sized.turn {n m : Nat} {a : Ln} (ha : Sized n m a) : Sized n m (turn a) := ⟨by simpa [Ln.turn] using ha.1, by simpa [Ln.turn] using ha.2⟩
theorem row_less {n m : Nat} {k : Int} {a b : Ln} (ha : Sized n m a) (hb : Sized n m b) : row n (less k a b) = fun j => row n a j - k * row n b j := by
  funext j
  unfold row less
  by_cases h : j < n
  · simp only [h, if_true]
    exact sub_getD (by rw [hb.1, ha.1]) j
  · simp only [h, if_false]
    exact sub_getD (by rw [hb.2, ha.2]) _
theorem row_turn (n : Nat) (a : Ln) : row n (turn a) = fun j => - row n a j := by
  funext j
  unfold row turn
  by_cases h : j < n
  · simp only [h, if_true]
    exact neg_getD _ _
  · simp only [h, if_false]
    exact neg_getD _ _
theorem row_at {n : Nat} (a : Ln) {c : Nat} (h : c < n) : row n a c = a.1.getD c 0 := by simp [row, h]

def rows (n : Nat) (L : List Ln) : List Row := L.map (row n)

/-- The rest of a sweep's round: multiples of the first line are taken from the others. -/
theorem same_round {n m : Nat} {c : Nat} {a : Ln} {R : List Ln} (hc : c < n) (ha : Sized n m a) (hR : ∀ r ∈ R, Sized n m r) :
    Same (rows n (a :: R)) (rows n (a :: R.map fun r => less (r.1.getD c 0 / a.1.getD c 0) r a)) := by
  have h := Same.clear (row n a) (R.map (row n)) (fun r => r c / row n a c)
  have e : (R.map (row n)).map (fun r => fun j => r j - (fun r : Row => r c / row n a c) r * row n a j) = (R.map fun r => less (r.1.getD c 0 / a.1.getD c 0) r a).map (row n) := by
    rw [List.map_map, List.map_map]
    apply List.map_congr_left
    intro r hr
    show _ = row n (less (r.1.getD c 0 / a.1.getD c 0) r a)
    rw [row_less (hR r hr) ha]
    funext j
    show row n r j - row n r c / row n a c * row n a j = _
    rw [row_at r hc, row_at a hc]
  rw [e] at h
  exact h

theorem same_turn (n : Nat) (a : Ln) (R : List Ln) : Same (rows n (a :: R)) (rows n (turn a :: R)) := by
  have h := Same.neg (row n a) (R.map (row n))
  rw [← row_turn] at h
  exact h

/-- A column of the echelon. -/
theorem same_above {n m : Nat} {c : Nat} {a : Ln} {D : List Ln} (hc : c < n) (ha : Sized n m a) (hD : ∀ r ∈ D, Sized n m r) :
    Same (rows n (D ++ [a])) (rows n ((D.map fun r => less (r.1.getD c 0 / a.1.getD c 0) r a) ++ [a])) ∧
    (0 < a.1.getD c 0 → (∀ j, j < c → a.1.getD j 0 = 0) → FormU c 0 (rows n D) → FormU (c + 1) 0 (rows n ((D.map fun r => less (r.1.getD c 0 / a.1.getD c 0) r a) ++ [a]))) := by
  have e : (D.map (row n)).map (fun r => fun j => r j - (r c / row n a c) * row n a j) = (D.map fun r => less (r.1.getD c 0 / a.1.getD c 0) r a).map (row n) := by
    rw [List.map_map, List.map_map]
    apply List.map_congr_left
    intro r hr
    show _ = row n (less (r.1.getD c 0 / a.1.getD c 0) r a)
    rw [row_less (hD r hr) ha]
    funext j
    show row n r j - row n r c / row n a c * row n a j = _
    rw [row_at r hc, row_at a hc]
  constructor
  · have h := Same.step (D.map (row n)) (row n a) (fun r => r c / row n a c)
    rw [e] at h
    unfold rows
    rw [List.map_append, List.map_append]
    exact h
  · intro h0 hz hF
    have h := FormU.step (a := row n a) (fun j hj => by rw [row_at a (by omega)]; exact hz j hj) (by rw [row_at a hc]; exact h0) hF
    have h' : FormU (c + 1) 0 (((D.map (row n)).map fun r => fun j => r j - (r c / row n a c) * row n a j) ++ [row n a]) := h
    rw [e] at h'
    unfold rows
    rw [List.map_append]
    exact h'

/-- What every row of a lattice holds at a column, if the generators do. -/
theorem vanish_of_same {n : Nat} {A B : List Ln} {j : Nat} (h : Same (rows n A) (rows n B)) (hA : ∀ a ∈ A, row n a j = 0) : ∀ b ∈ B, row n b j = 0 := by
  intro b hb
  have h1 : InL (rows n A) (row n b) := (h _).2 (.mem (List.mem_map.2 ⟨b, hb, rfl⟩))
  have key : ∀ (L : List Row) (x : Row), (∀ a ∈ L, a j = 0) → InL L x → x j = 0 := by
    intro L
    induction L with
    | nil => intro x _ hx; exact hx j
    | cons a L ih =>
      rintro x hL ⟨k, hx⟩
      have := ih _ (fun b hb => hL b (List.mem_cons_of_mem _ hb)) hx
      rw [hL a (List.mem_cons_self ..)] at this
      simpa using this
  exact key _ _ (fun a ha => by obtain ⟨c, hc, rfl⟩ := List.mem_map.1 ha; exact hA c hc) h1

/-- Linear images keep lattices. -/
theorem InL_image {A : List Row} (f : Row → Row) (hf : ∀ x y k, f (fun j => x j - k * y j) = fun j => f x j - k * f y j) (h0 : ∀ x : Row, (∀ j, x j = 0) → ∀ j, f x j = 0) :
    ∀ {x : Row}, InL A x → InL (A.map f) (f x) := by
  induction A with
  | nil => intro x hx; exact h0 x hx
  | cons a A ih =>
    rintro x ⟨k, hx⟩
    refine ⟨k, ?_⟩
    have := ih hx
    rw [hf] at this
    exact this

def xrow (l : List Int) : Row := fun j => l.getD j 0
/-- The elements alone. -/
def cutR (n : Nat) (x : Row) : Row := fun j => if j < n then x j else 0
theorem cutR_row {n m : Nat} {l : Ln} (h : Sized n m l) : cutR n (row n l) = xrow l.1 := by
  funext j
  unfold cutR row xrow
  by_cases hj : j < n
  · simp [hj]
  · simp only [hj, if_false]
    rw [List.getD_eq_getElem?_getD, List.getElem?_eq_none (by rw [h.1]; omega)]
    rfl
theorem same_x {n m : Nat} {A B : List Ln} (hA : ∀ a ∈ A, Sized n m a) (hB : ∀ b ∈ B, Sized n m b) (h : Same (rows n A) (rows n B)) : Same (A.map fun l => xrow l.1) (B.map fun l => xrow l.1) := by
  have one : ∀ (A B : List Ln), (∀ a ∈ A, Sized n m a) → (∀ b ∈ B, Sized n m b) → Same (rows n A) (rows n B) → ∀ a ∈ A, InL (B.map fun l => xrow l.1) (xrow a.1) := by
    intro A B hA hB h a ha
    have h1 : InL (rows n B) (row n a) := (h _).1 (.mem (List.mem_map.2 ⟨a, ha, rfl⟩))
    have h2 := InL_image (cutR n) (fun x y k => by funext j; unfold cutR; by_cases hj : j < n <;> simp [hj]) (fun x hx j => by unfold cutR; split <;> simp [hx]) h1
    have e : (rows n B).map (cutR n) = B.map fun l => xrow l.1 := by
      unfold rows
      rw [List.map_map]
      apply List.map_congr_left
      intro b hb
      exact cutR_row (hB b hb)
    rw [e, cutR_row (hA a ha)] at h2
    exact h2
  refine Same.of (fun x hx => ?_) (fun x hx => ?_)
  · obtain ⟨a, ha, rfl⟩ := List.mem_map.1 hx
    exact one A B hA hB h a ha
  · obtain ⟨b, hb, rfl⟩ := List.mem_map.1 hx
    exact one B A hB hA h.symm b hb
end Go.Proofs.YtmfkpmepgbjmkaaGreatDoor.Ln
