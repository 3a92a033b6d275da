/-
  PLAIN MATHEMATICS: Hermite normal forms over the integers, and that a lattice has one of them alone.
  PLAIN MATHEMATICS: lines (a row of integers with the multiples of the original rows that it is the sum of), and what a sweep and an echelon do to them.
  PLAIN MATHEMATICS: a sweep's rounds: the lattice stays, the numbers stay bounded, the least element goes down.
  PLAIN MATHEMATICS: an echelon, column by column.
  PLAIN MATHEMATICS: the rank of a lattice, and the product of the pivots of the lattice of multiplied rows.
  PLAIN MATHEMATICS: the form of at most four columns with small elements has elements within the limit.
-/
set_option linter.unusedVariables false
set_option linter.unusedSimpArgs false
namespace Go.Proofs.YtmfkpmepgbjmkaaGreatDoor.Hnf
abbrev Row := Nat → Int

def InL : List Row → Row → Prop
  | [], x => ∀ j, x j = 0
  | a :: A, x => ∃ k : Int, InL A (fun j => x j - k * a j)

/-- Each row's pivot, from column 'lo' on. -/
def Form (lo : Nat) : List Row → Prop
  | [] => True
  | a :: A => ∃ p, lo ≤ p ∧ (∀ j, j < p → a j = 0) ∧ 0 < a p ∧ Form (p + 1) A ∧ ∀ b ∈ A, ∀ q, (∀ j, j < q → b j = 0) → b q ≠ 0 → 0 ≤ a q ∧ a q < b q

theorem InL.congr {A : List Row} {x y : Row} (h : InL A x) (e : ∀ j, x j = y j) : InL A y := by
  have : x = y := funext e
  exact this ▸ h

theorem InL.zero (A : List Row) : InL A (fun _ => 0) := by
  induction A with
  | nil => intro j; rfl
  | cons a A ih => exact ⟨0, ih.congr (fun j => by simp)⟩

theorem InL.add {A : List Row} : ∀ {x y : Row}, InL A x → InL A y → InL A (fun j => x j + y j) := by
  induction A with
  | nil => intro x y hx hy j; simp [hx j, hy j]
  | cons a A ih =>
    rintro x y ⟨k, hx⟩ ⟨l, hy⟩
    exact ⟨k + l, (ih hx hy).congr (fun j => by grind)⟩

theorem InL.smul {A : List Row} (t : Int) : ∀ {x : Row}, InL A x → InL A (fun j => t * x j) := by
  induction A with
  | nil => intro x hx j; simp [hx j]
  | cons a A ih =>
    rintro x ⟨k, hx⟩
    exact ⟨t * k, (ih hx).congr (fun j => by grind)⟩

theorem InL.sub {A : List Row} {x y : Row} (hx : InL A x) (hy : InL A y) : InL A (fun j => x j - y j) :=
  (hx.add (hy.smul (-1))).congr (fun j => by grind)

theorem InL.tail {a : Row} {A : List Row} {x : Row} (h : InL A x) : InL (a :: A) x := ⟨0, h.congr (fun j => by simp)⟩
theorem InL.head (a : Row) (A : List Row) : InL (a :: A) a := ⟨1, (InL.zero A).congr (fun j => by grind)⟩
theorem InL.mem {A : List Row} {a : Row} (h : a ∈ A) : InL A a := by
  induction A with
  | nil => cases h
  | cons b A ih =>
    rcases List.mem_cons.1 h with rfl | h
    · exact .head _ _
    · exact (ih h).tail

theorem InL.of_all {A B : List Row} (h : ∀ a ∈ A, InL B a) : ∀ {x : Row}, InL A x → InL B x := by
  induction A with
  | nil => intro x hx; exact (InL.zero B).congr (fun j => (hx j).symm)
  | cons a A ih =>
    rintro x ⟨k, hx⟩
    have h1 := ih (fun b hb => h b (List.mem_cons_of_mem _ hb)) hx
    exact (h1.add ((h a (List.mem_cons_self ..)).smul k)).congr (fun j => by grind)

theorem Form.vanish {A : List Row} : ∀ {lo : Nat}, Form lo A → ∀ {x : Row}, InL A x → ∀ j, j < lo → x j = 0 := by
  induction A with
  | nil => intro lo _ x hx j _; exact hx j
  | cons a A ih =>
    rintro lo ⟨p, hlo, hz, hp, hA, _⟩ x ⟨k, hx⟩ j hj
    have := ih hA hx j (by omega)
    rw [hz j (by omega)] at this
    simpa using this

/-- A row of the lattice whose elements in the pivots' columns are less than these is zero. -/
theorem Form.small {A : List Row} : ∀ {lo : Nat}, Form lo A → ∀ {x : Row}, InL A x → (∀ b ∈ A, ∀ q, (∀ j, j < q → b j = 0) → b q ≠ 0 → -b q < x q ∧ x q < b q) → ∀ j, x j = 0 := by
  induction A with
  | nil => intro lo _ x hx _; exact hx
  | cons a A ih =>
    rintro lo ⟨p, hlo, hz, hp, hA, _⟩ x ⟨k, hx⟩ hs
    have h1 := hs a (List.mem_cons_self ..) p hz (by omega)
    have h2 := hA.vanish hx p (by omega)
    have h3 : x p = k * a p := by omega
    have hk : k = 0 := by
      rcases Int.lt_trichotomy k 0 with h | h | h
      · have : k * a p ≤ -1 * a p := Int.mul_le_mul_of_nonneg_right (by omega) (by omega)
        omega
      · exact h
      · have : 1 * a p ≤ k * a p := Int.mul_le_mul_of_nonneg_right (by omega) (by omega)
        omega
    subst hk
    have hx' : InL A x := hx.congr (fun j => by simp)
    exact ih hA hx' (fun b hb => hs b (List.mem_cons_of_mem _ hb))

theorem Form.below {A : List Row} {a : Row} {p : Nat} (hA : Form (p + 1) A) (hp : a p ≠ 0) {x : Row} (h : InL (a :: A) x) (hx : x p = 0) : InL A x := by
  obtain ⟨k, h⟩ := h
  have h1 := hA.vanish h p (by omega)
  rw [hx] at h1
  have hk : k = 0 := by
    have : k * a p = 0 := by omega
    rcases Int.mul_eq_zero.1 this with h | h
    · exact h
    · exact absurd h hp
  subst hk
  exact h.congr (fun j => by simp)

theorem Form.unique {A : List Row} : ∀ {lo lo' : Nat} {B : List Row}, Form lo A → Form lo' B → (∀ x, InL A x ↔ InL B x) → A = B := by
  induction A with
  | nil =>
    intro lo lo' B _ hB h
    cases B with
    | nil => rfl
    | cons b B =>
      obtain ⟨p, _, _, hp, _⟩ := hB
      have := (h b).2 (.head b B) p
      omega
  | cons a A ih =>
    intro lo lo' B hA hB h
    cases B with
    | nil =>
      obtain ⟨p, _, _, hp, _⟩ := hA
      have := (h a).1 (.head a A) p
      omega
    | cons b B =>
      obtain ⟨p, hlo, hz, hp, hA', hr⟩ := hA
      obtain ⟨q, hlo', hz', hq, hB', hr'⟩ := hB
      have hFA : Form p (a :: A) := ⟨p, Nat.le_refl _, hz, hp, hA', hr⟩
      have hFB : Form q (b :: B) := ⟨q, Nat.le_refl _, hz', hq, hB', hr'⟩
      have ha : InL (b :: B) a := (h a).1 (.head a A)
      have hb : InL (a :: A) b := (h b).2 (.head b B)
      have hpq : p = q := by
        rcases Nat.lt_trichotomy p q with h1 | h1 | h1
        · have := hFB.vanish ha p h1; omega
        · exact h1
        · have := hFA.vanish hb q h1; omega
      subst hpq
      obtain ⟨k, ha'⟩ := ha
      obtain ⟨l, hb'⟩ := hb
      have e1 : a p = k * b p := by have := hB'.vanish ha' p (by omega); omega
      have e2 : b p = l * a p := by have := hA'.vanish hb' p (by omega); omega
      have e : a p = b p := by
        have hk : 0 < k := by
          apply Int.pos_of_mul_pos_left (b := b p) ?_ hq
          · omega
        have hl : 0 < l := by
          apply Int.pos_of_mul_pos_left (b := a p) ?_ hp
          · omega
        have h1 : 1 * b p ≤ k * b p := Int.mul_le_mul_of_nonneg_right (by omega) (by omega)
        have h2 : 1 * a p ≤ l * a p := Int.mul_le_mul_of_nonneg_right (by omega) (by omega)
        omega
      have hAB : ∀ x, InL A x ↔ InL B x := by
        intro x
        constructor
        · intro hx
          exact hB'.below (by omega) ((h x).1 hx.tail) (hA'.vanish hx p (by omega))
        · intro hx
          exact hA'.below (by omega) ((h x).2 hx.tail) (hB'.vanish hx p (by omega))
      have eAB : A = B := ih hA' hB' hAB
      subst eAB
      have hd : InL (a :: A) (fun j => a j - b j) := (InL.head a A).sub ((h b).2 (.head b A))
      have hd' : InL A (fun j => a j - b j) := hA'.below (by omega) hd (by omega)
      have h0 := hA'.small hd' (fun c hc q hq0 hq1 => by
        have h1 := hr c hc q hq0 hq1
        have h2 := hr' c hc q hq0 hq1
        constructor <;> omega)
      have : a = b := funext fun j => by have := h0 j; omega
      rw [this]


/-- Two lists of rows have the same lattice. -/
def Same (A B : List Row) : Prop := ∀ x, InL A x ↔ InL B x
theorem Same.refl (A : List Row) : Same A A := fun _ => Iff.rfl
theorem Same.symm {A B : List Row} (h : Same A B) : Same B A := fun x => (h x).symm
theorem Same.trans {A B C : List Row} (h : Same A B) (h' : Same B C) : Same A C := fun x => (h x).trans (h' x)
theorem Same.of {A B : List Row} (h : ∀ a ∈ A, InL B a) (h' : ∀ b ∈ B, InL A b) : Same A B :=
  fun _ => ⟨InL.of_all h, InL.of_all h'⟩

theorem Same.perm {A B : List Row} (h : A.Perm B) : Same A B :=
  .of (fun _ ha => .mem (h.mem_iff.1 ha)) (fun _ hb => .mem (h.mem_iff.2 hb))

/-- Multiples of one row are taken from the others. -/
theorem Same.clear (a : Row) (R : List Row) (q : Row → Int) : Same (a :: R) (a :: R.map fun r => fun j => r j - q r * a j) := by
  refine .of (fun b hb => ?_) (fun b hb => ?_)
  · rcases List.mem_cons.1 hb with rfl | hb
    · exact .head _ _
    · have h1 : InL (a :: R.map fun r => fun j => r j - q r * a j) (fun j => b j - q b * a j) := .mem (List.mem_cons_of_mem _ (List.mem_map.2 ⟨b, hb, rfl⟩))
      exact (h1.add ((InL.head a _).smul (q b))).congr (fun j => by grind)
  · rcases List.mem_cons.1 hb with rfl | hb
    · exact .head _ _
    · obtain ⟨r, hr, rfl⟩ := List.mem_map.1 hb
      exact (InL.sub (.mem (List.mem_cons_of_mem _ hr)) ((InL.head a R).smul (q r)))

theorem Same.neg (a : Row) (R : List Row) : Same (a :: R) ((fun j => - a j) :: R) := by
  refine .of (fun b hb => ?_) (fun b hb => ?_)
  · rcases List.mem_cons.1 hb with rfl | hb
    · exact ((InL.head (fun j => - b j) R).smul (-1)).congr (fun j => by grind)
    · exact .mem (List.mem_cons_of_mem _ hb)
  · rcases List.mem_cons.1 hb with rfl | hb
    · exact ((InL.head a R).smul (-1)).congr (fun j => by grind)
    · exact .mem (List.mem_cons_of_mem _ hb)

theorem Same.append_left {A B : List Row} (C : List Row) (h : Same A B) : Same (C ++ A) (C ++ B) := by
  refine .of (fun b hb => ?_) (fun b hb => ?_)
  · rcases List.mem_append.1 hb with hb | hb
    · exact .mem (List.mem_append_left _ hb)
    · exact InL.of_all (fun a ha => .mem (List.mem_append_right _ ha)) ((h b).1 (.mem hb))
  · rcases List.mem_append.1 hb with hb | hb
    · exact .mem (List.mem_append_left _ hb)
    · exact InL.of_all (fun a ha => .mem (List.mem_append_right _ ha)) ((h b).2 (.mem hb))

theorem Same.append_comm (A B : List Row) : Same (A ++ B) (B ++ A) :=
  .perm List.perm_append_comm

theorem Same.append_right {A B : List Row} (C : List Row) (h : Same A B) : Same (A ++ C) (B ++ C) :=
  ((Same.append_comm A C).trans (h.append_left C)).trans (Same.append_comm C B)

theorem Same.cons {A B : List Row} (a : Row) (h : Same A B) : Same (a :: A) (a :: B) := h.append_left [a]

theorem Same.drop_zero {A : List Row} {a : Row} (h : ∀ j, a j = 0) : Same (a :: A) A := by
  refine .of (fun b hb => ?_) (fun b hb => .mem (List.mem_cons_of_mem _ hb))
  rcases List.mem_cons.1 hb with rfl | hb
  · exact (InL.zero A).congr (fun j => (h j).symm)
  · exact .mem hb

theorem Same.drop_zeros {A Z : List Row} (h : ∀ z ∈ Z, ∀ j, z j = 0) : Same (A ++ Z) A := by
  refine .of (fun b hb => ?_) (fun b hb => .mem (List.mem_append_left _ hb))
  rcases List.mem_append.1 hb with hb | hb
  · exact .mem hb
  · exact (InL.zero A).congr (fun j => (h b hb j).symm)

/-- A form whose pivots stand below column 'hi'. -/
def FormU (hi lo : Nat) : List Row → Prop
  | [] => True
  | a :: A => ∃ p, lo ≤ p ∧ p < hi ∧ (∀ j, j < p → a j = 0) ∧ 0 < a p ∧ FormU hi (p + 1) A ∧ ∀ b ∈ A, ∀ q, (∀ j, j < q → b j = 0) → b q ≠ 0 → 0 ≤ a q ∧ a q < b q

theorem FormU.form {hi : Nat} {A : List Row} : ∀ {lo}, FormU hi lo A → Form lo A := by
  induction A with
  | nil => intro _ _; trivial
  | cons a A ih =>
    rintro lo ⟨p, h1, _, h2, h3, h4, h5⟩
    exact ⟨p, h1, h2, h3, ih h4, h5⟩

theorem FormU.mono {hi hi' : Nat} (hh : hi ≤ hi') {A : List Row} : ∀ {lo}, FormU hi lo A → FormU hi' lo A := by
  induction A with
  | nil => intro _ _; trivial
  | cons a A ih =>
    rintro lo ⟨p, h1, h1', h2, h3, h4, h5⟩
    exact ⟨p, h1, by omega, h2, h3, ih h4, h5⟩

/-- The pivot of each row of a form stands below 'hi'. -/
theorem FormU.pivot {hi : Nat} {A : List Row} : ∀ {lo}, FormU hi lo A → ∀ b ∈ A, ∃ q, lo ≤ q ∧ q < hi ∧ (∀ j, j < q → b j = 0) ∧ 0 < b q := by
  induction A with
  | nil => intro _ _ b hb; cases hb
  | cons a A ih =>
    rintro lo ⟨p, h1, h1', h2, h3, h4, h5⟩ b hb
    rcases List.mem_cons.1 hb with rfl | hb
    · exact ⟨p, h1, h1', h2, h3⟩
    · obtain ⟨q, g1, g2, g3, g4⟩ := ih h4 b hb
      exact ⟨q, by omega, g2, g3, g4⟩

/-- Only the columns below 'hi' matter. -/
theorem FormU.congr {hi : Nat} {A : List Row} (f : Row → Row) (hf : ∀ a ∈ A, ∀ j, j < hi → f a j = a j) : ∀ {lo}, FormU hi lo A → FormU hi lo (A.map f) := by
  induction A with
  | nil => intro _ _; trivial
  | cons a A ih =>
    rintro lo ⟨p, h1, h1', h2, h3, h4, h5⟩
    have ha := hf a (List.mem_cons_self ..)
    refine ⟨p, h1, h1', fun j hj => by rw [ha j (by omega)]; exact h2 j hj, by rw [ha p h1']; exact h3, ih (fun b hb => hf b (List.mem_cons_of_mem _ hb)) h4, ?_⟩
    intro b hb q hq0 hq1
    obtain ⟨c, hc, rfl⟩ := List.mem_map.1 hb
    have hfc := hf c (List.mem_cons_of_mem _ hc)
    obtain ⟨q', g1, g2, g3, g4⟩ := FormU.pivot h4 c hc
    have e : q = q' := by
      rcases Nat.lt_trichotomy q q' with h | h | h
      · have := g3 q h; rw [hfc q (by omega)] at hq1; omega
      · exact h
      · have := hq0 q' h; rw [hfc q' g2] at this; omega
    subst e
    rw [ha q g2, hfc q g2]
    exact h5 c hc q g3 (by omega)

theorem FormU.snoc {c : Nat} {A : List Row} {a : Row} (hz : ∀ j, j < c → a j = 0) (hc : 0 < a c) : ∀ {lo}, lo ≤ c → FormU c lo A → (∀ b ∈ A, 0 ≤ b c ∧ b c < a c) → FormU (c + 1) lo (A ++ [a]) := by
  induction A with
  | nil =>
    intro lo hlo _ _
    exact ⟨c, hlo, by omega, hz, hc, trivial, fun b hb => by cases hb⟩
  | cons b A ih =>
    rintro lo hlo ⟨p, h1, h1', h2, h3, h4, h5⟩ hr
    refine ⟨p, h1, by omega, h2, h3, ih (by omega) h4 (fun b' hb' => hr b' (List.mem_cons_of_mem _ hb')), ?_⟩
    intro d hd q hq0 hq1
    rcases List.mem_append.1 hd with hd | hd
    · exact h5 d hd q hq0 hq1
    · obtain rfl : d = a := by simpa using hd
      have e : q = c := by
        rcases Nat.lt_trichotomy q c with h | h | h
        · exact absurd (hz q h) hq1
        · exact h
        · have := hq0 c h; omega
      subst e
      exact hr b (List.mem_cons_self ..)

/-- One column is done: the rows above are 'A', the new pivot's row is 'a'. -/
theorem FormU.step {c : Nat} {A : List Row} {a : Row} (hz : ∀ j, j < c → a j = 0) (hc : 0 < a c) (hA : FormU c 0 A) :
    FormU (c + 1) 0 ((A.map fun r => fun j => r j - (r c / a c) * a j) ++ [a]) := by
  refine FormU.snoc hz hc (Nat.zero_le _) (hA.congr (fun r => fun j => r j - (r c / a c) * a j) (fun r _ j hj => by show r j - (r c / a c) * a j = r j; rw [hz j hj]; simp)) ?_
  intro b hb
  obtain ⟨r, _, rfl⟩ := List.mem_map.1 hb
  have h1 := Int.emod_nonneg (r c) (show a c ≠ 0 by omega)
  have h2 := Int.emod_lt_of_pos (r c) hc
  have h3 : r c % a c = r c - (r c / a c) * a c := by rw [Int.emod_def, Int.mul_comm]
  show 0 ≤ r c - (r c / a c) * a c ∧ r c - (r c / a c) * a c < a c
  exact ⟨by omega, by omega⟩

theorem Same.step (A : List Row) (a : Row) (q : Row → Int) : Same (A ++ [a]) ((A.map fun r => fun j => r j - q r * a j) ++ [a]) :=
  ((Same.append_comm A [a]).trans (Same.clear a A q)).trans (Same.append_comm [a] _)
end Go.Proofs.YtmfkpmepgbjmkaaGreatDoor.Hnf

namespace Go.Proofs.YtmfkpmepgbjmkaaGreatDoor.Ln
open Go.Proofs.YtmfkpmepgbjmkaaGreatDoor.Hnf

abbrev Ln := List Int × List Int
/-- A line as one row: the elements, and behind them the multiples. -/
def row (n : Nat) (l : Ln) : Row := fun j => if j < n then l.1.getD j 0 else l.2.getD (j - n) 0
def sub (k : Int) (a b : List Int) : List Int := List.zipWith (fun x y => x - k * y) a b
def less (k : Int) (a b : Ln) : Ln := (sub k a.1 b.1, sub k a.2 b.2)
def turn (a : Ln) : Ln := (a.1.map (fun x => -x), a.2.map (fun x => -x))

theorem sub_length {k : Int} {a b : List Int} (h : b.length = a.length) : (sub k a b).length = a.length := by simp [sub, h]
theorem sub_getD {k : Int} {a b : List Int} (h : b.length = a.length) (i : Nat) : (sub k a b).getD i 0 = a.getD i 0 - k * b.getD i 0 := by
  unfold sub
  rw [List.getD_eq_getElem?_getD, List.getD_eq_getElem?_getD, List.getD_eq_getElem?_getD, List.getElem?_zipWith]
  by_cases hi : i < a.length
  · rw [List.getElem?_eq_getElem hi, List.getElem?_eq_getElem (by omega)]
    simp
  · rw [List.getElem?_eq_none (by omega), List.getElem?_eq_none (by omega)]
    simp
theorem neg_getD (a : List Int) (i : Nat) : (a.map (fun x => -x)).getD i 0 = - a.getD i 0 := by
  rw [List.getD_eq_getElem?_getD, List.getD_eq_getElem?_getD, List.getElem?_map]
  cases a[i]? <;> simp

/-- All lines have n elements and m multiples. -/
def Sized (n m : Nat) (l : Ln) : Prop := l.1.length = n ∧ l.2.length = m
theorem Sized.less {n m : Nat} {k : Int} {a b : Ln} (ha : Sized n m a) (hb : Sized n m b) : Sized n m (less k a b) :=
  ⟨(sub_length (by rw [hb.1, ha.1])).trans ha.1, (sub_length (by rw [hb.2, ha.2])).trans ha.2⟩
theorem Sized.turn {n m : Nat} {a : Ln} (ha : Sized n m a) : Sized n m (turn a) := ⟨by simpa [Ln.turn] using ha.1, by simpa [Ln.turn] using ha.2⟩
theorem row_less {n m : Nat} {k : Int} {a b : Ln} (ha : Sized n m a) (hb : Sized n m b) : row n (less k a b) = fun j => row n a j - k * row n b j := by
  funext j
  unfold row less
  by_cases h : j < n
  · simp only [h, if_true]
    exact sub_getD (by rw [hb.1, ha.1]) j
  · simp only [h, if_false]
    exact sub_getD (by rw [hb.2, ha.2]) _
theorem row_turn (n : Nat) (a : Ln) : row n (turn a) = fun j => - row n a j := by
  funext j
  unfold row turn
  by_cases h : j < n
  · simp only [h, if_true]
    exact neg_getD _ _
  · simp only [h, if_false]
    exact neg_getD _ _
theorem row_at {n : Nat} (a : Ln) {c : Nat} (h : c < n) : row n a c = a.1.getD c 0 := by simp [row, h]

def rows (n : Nat) (L : List Ln) : List Row := L.map (row n)

/-- The rest of a sweep's round: multiples of the first line are taken from the others. -/
theorem same_round {n m : Nat} {c : Nat} {a : Ln} {R : List Ln} (hc : c < n) (ha : Sized n m a) (hR : ∀ r ∈ R, Sized n m r) :
    Same (rows n (a :: R)) (rows n (a :: R.map fun r => less (r.1.getD c 0 / a.1.getD c 0) r a)) := by
  have h := Same.clear (row n a) (R.map (row n)) (fun r => r c / row n a c)
  have e : (R.map (row n)).map (fun r => fun j => r j - (fun r : Row => r c / row n a c) r * row n a j) = (R.map fun r => less (r.1.getD c 0 / a.1.getD c 0) r a).map (row n) := by
    rw [List.map_map, List.map_map]
    apply List.map_congr_left
    intro r hr
    show _ = row n (less (r.1.getD c 0 / a.1.getD c 0) r a)
    rw [row_less (hR r hr) ha]
    funext j
    show row n r j - row n r c / row n a c * row n a j = _
    rw [row_at r hc, row_at a hc]
  rw [e] at h
  exact h

theorem same_turn (n : Nat) (a : Ln) (R : List Ln) : Same (rows n (a :: R)) (rows n (turn a :: R)) := by
  have h := Same.neg (row n a) (R.map (row n))
  rw [← row_turn] at h
  exact h

/-- A column of the echelon. -/
theorem same_above {n m : Nat} {c : Nat} {a : Ln} {D : List Ln} (hc : c < n) (ha : Sized n m a) (hD : ∀ r ∈ D, Sized n m r) :
    Same (rows n (D ++ [a])) (rows n ((D.map fun r => less (r.1.getD c 0 / a.1.getD c 0) r a) ++ [a])) ∧
    (0 < a.1.getD c 0 → (∀ j, j < c → a.1.getD j 0 = 0) → FormU c 0 (rows n D) → FormU (c + 1) 0 (rows n ((D.map fun r => less (r.1.getD c 0 / a.1.getD c 0) r a) ++ [a]))) := by
  have e : (D.map (row n)).map (fun r => fun j => r j - (r c / row n a c) * row n a j) = (D.map fun r => less (r.1.getD c 0 / a.1.getD c 0) r a).map (row n) := by
    rw [List.map_map, List.map_map]
    apply List.map_congr_left
    intro r hr
    show _ = row n (less (r.1.getD c 0 / a.1.getD c 0) r a)
    rw [row_less (hD r hr) ha]
    funext j
    show row n r j - row n r c / row n a c * row n a j = _
    rw [row_at r hc, row_at a hc]
  constructor
  · have h := Same.step (D.map (row n)) (row n a) (fun r => r c / row n a c)
    rw [e] at h
    unfold rows
    rw [List.map_append, List.map_append]
    exact h
  · intro h0 hz hF
    have h := FormU.step (a := row n a) (fun j hj => by rw [row_at a (by omega)]; exact hz j hj) (by rw [row_at a hc]; exact h0) hF
    have h' : FormU (c + 1) 0 (((D.map (row n)).map fun r => fun j => r j - (r c / row n a c) * row n a j) ++ [row n a]) := h
    rw [e] at h'
    unfold rows
    rw [List.map_append]
    exact h'

/-- What every row of a lattice holds at a column, if the generators do. -/
theorem vanish_of_same {n : Nat} {A B : List Ln} {j : Nat} (h : Same (rows n A) (rows n B)) (hA : ∀ a ∈ A, row n a j = 0) : ∀ b ∈ B, row n b j = 0 := by
  intro b hb
  have h1 : InL (rows n A) (row n b) := (h _).2 (.mem (List.mem_map.2 ⟨b, hb, rfl⟩))
  have key : ∀ (L : List Row) (x : Row), (∀ a ∈ L, a j = 0) → InL L x → x j = 0 := by
    intro L
    induction L with
    | nil => intro x _ hx; exact hx j
    | cons a L ih =>
      rintro x hL ⟨k, hx⟩
      have := ih _ (fun b hb => hL b (List.mem_cons_of_mem _ hb)) hx
      rw [hL a (List.mem_cons_self ..)] at this
      simpa using this
  exact key _ _ (fun a ha => by obtain ⟨c, hc, rfl⟩ := List.mem_map.1 ha; exact hA c hc) h1

/-- Linear images keep lattices. -/
theorem InL_image {A : List Row} (f : Row → Row) (hf : ∀ x y k, f (fun j => x j - k * y j) = fun j => f x j - k * f y j) (h0 : ∀ x : Row, (∀ j, x j = 0) → ∀ j, f x j = 0) :
    ∀ {x : Row}, InL A x → InL (A.map f) (f x) := by
  induction A with
  | nil => intro x hx; exact h0 x hx
  | cons a A ih =>
    rintro x ⟨k, hx⟩
    refine ⟨k, ?_⟩
    have := ih hx
    rw [hf] at this
    exact this

def xrow (l : List Int) : Row := fun j => l.getD j 0
/-- The elements alone. -/
def cutR (n : Nat) (x : Row) : Row := fun j => if j < n then x j else 0
theorem cutR_row {n m : Nat} {l : Ln} (h : Sized n m l) : cutR n (row n l) = xrow l.1 := by
  funext j
  unfold cutR row xrow
  by_cases hj : j < n
  · simp [hj]
  · simp only [hj, if_false]
    rw [List.getD_eq_getElem?_getD, List.getElem?_eq_none (by rw [h.1]; omega)]
    rfl
theorem same_x {n m : Nat} {A B : List Ln} (hA : ∀ a ∈ A, Sized n m a) (hB : ∀ b ∈ B, Sized n m b) (h : Same (rows n A) (rows n B)) : Same (A.map fun l => xrow l.1) (B.map fun l => xrow l.1) := by
  have one : ∀ (A B : List Ln), (∀ a ∈ A, Sized n m a) → (∀ b ∈ B, Sized n m b) → Same (rows n A) (rows n B) → ∀ a ∈ A, InL (B.map fun l => xrow l.1) (xrow a.1) := by
    intro A B hA hB h a ha
    have h1 : InL (rows n B) (row n a) := (h _).1 (.mem (List.mem_map.2 ⟨a, ha, rfl⟩))
    have h2 := InL_image (cutR n) (fun x y k => by funext j; unfold cutR; by_cases hj : j < n <;> simp [hj]) (fun x hx j => by unfold cutR; split <;> simp [hx]) h1
    have e : (rows n B).map (cutR n) = B.map fun l => xrow l.1 := by
      unfold rows
      rw [List.map_map]
      apply List.map_congr_left
      intro b hb
      exact cutR_row (hB b hb)
    rw [e, cutR_row (hA a ha)] at h2
    exact h2
  refine Same.of (fun x hx => ?_) (fun x hx => ?_)
  · obtain ⟨a, ha, rfl⟩ := List.mem_map.1 hx
    exact one A B hA hB h a ha
  · obtain ⟨b, hb, rfl⟩ := List.mem_map.1 hx
    exact one B A hB hA h.symm b hb
end Go.Proofs.YtmfkpmepgbjmkaaGreatDoor.Ln

namespace Go.Proofs.YtmfkpmepgbjmkaaGreatDoor.Ln
open Go.Proofs.YtmfkpmepgbjmkaaGreatDoor.Hnf

/-- Downward quotient. -/
def fq (a b : Int) : Int := if 0 < b then a / b else (-a) / (-b)
theorem fq_spec {a b : Int} (hb : b ≠ 0) : a = b * fq a b + (a - b * fq a b) ∧ (0 ≤ a - b * fq a b ∧ a - b * fq a b < b ∨ b < a - b * fq a b ∧ a - b * fq a b ≤ 0) := by
  refine ⟨by omega, ?_⟩
  unfold fq
  split
  · rename_i h
    have h1 := Int.emod_nonneg a hb
    have h2 := Int.emod_lt_of_pos a h
    rw [Int.emod_def] at h1 h2
    omega
  · rename_i h
    have h1 := Int.emod_nonneg (-a) (show -b ≠ 0 by omega)
    have h2 := Int.emod_lt_of_pos (-a) (show 0 < -b by omega)
    rw [Int.emod_def, Int.neg_mul] at h1 h2
    omega
theorem small_mul {b t : Int} (h : (b * t).natAbs < b.natAbs) : t = 0 := by
  rw [Int.natAbs_mul] at h
  rcases Nat.eq_zero_or_pos t.natAbs with h0 | h0
  · omega
  · have := Nat.mul_le_mul_left b.natAbs h0
    omega
theorem fq_unique {a b q r : Int} (hb : b ≠ 0) (h : a = b * q + r) (hr : 0 ≤ r ∧ r < b ∨ b < r ∧ r ≤ 0) : q = fq a b := by
  obtain ⟨_, h2⟩ := fq_spec (a := a) hb
  have h3 : b * (q - fq a b) = (a - b * fq a b) - r := by rw [Int.mul_sub]; omega
  have := small_mul (b := b) (t := q - fq a b) (by rw [h3]; omega)
  omega
theorem fq_zero (b : Int) : fq 0 b = 0 := by unfold fq; split <;> simp
theorem fq_bound {a b : Int} (hb : b ≠ 0) : (fq a b).natAbs * b.natAbs ≤ a.natAbs + b.natAbs := by
  obtain ⟨_, h2⟩ := fq_spec (a := a) hb
  have h3 : (b * fq a b).natAbs = b.natAbs * (fq a b).natAbs := Int.natAbs_mul _ _
  rw [Nat.mul_comm]
  omega
theorem fq_abs {a b : Int} (hb : b ≠ 0) : (fq a b).natAbs ≤ a.natAbs := by
  obtain ⟨h1, h2⟩ := fq_spec (a := a) hb
  have h3 : (b * fq a b).natAbs = b.natAbs * (fq a b).natAbs := Int.natAbs_mul _ _
  have hb1 : 1 ≤ b.natAbs := by omega
  rcases Nat.lt_or_ge a.natAbs (fq a b).natAbs with h | h
  · exfalso
    by_cases hbig : b.natAbs = 1
    · rw [hbig] at h3
      omega
    · have h5 : 2 * (fq a b).natAbs ≤ b.natAbs * (fq a b).natAbs := Nat.mul_le_mul_right _ (by omega)
      have h6 : b.natAbs * (a.natAbs + 1) ≤ b.natAbs * (fq a b).natAbs := Nat.mul_le_mul_left _ h
      rw [Nat.mul_add] at h6
      have h7 : a.natAbs ≤ b.natAbs * a.natAbs := Nat.le_mul_of_pos_left _ hb1
      -- |b q| ≤ |a| + |r|, |r| ≤ |b| - 1
      omega
  · exact h

def at_ (c : Nat) (l : Ln) : Int := l.1.getD c 0
/-- All numbers of a line are at most F. -/
def Bd (F : Nat) (l : Ln) : Prop := (∀ x ∈ l.1, x.natAbs ≤ F) ∧ (∀ x ∈ l.2, x.natAbs ≤ F)
theorem Bd.mono {F G : Nat} (h : F ≤ G) {l : Ln} (hl : Bd F l) : Bd G l := ⟨fun x hx => Nat.le_trans (hl.1 x hx) h, fun x hx => Nat.le_trans (hl.2 x hx) h⟩
theorem Bd.at_ {F : Nat} {l : Ln} (hl : Bd F l) (c : Nat) : (at_ c l).natAbs ≤ F := by
  unfold Ln.at_
  rw [List.getD_eq_getElem?_getD]
  rcases Nat.lt_or_ge c l.1.length with h | h
  · rw [List.getElem?_eq_getElem h]
    exact hl.1 _ (List.getElem_mem h)
  · rw [List.getElem?_eq_none h]
    exact Nat.zero_le _
theorem bd_sub {F E : Nat} {k : Int} {a b : List Int} (ha : ∀ x ∈ a, x.natAbs ≤ F) (hb : ∀ x ∈ b, x.natAbs ≤ E) : ∀ x ∈ sub k a b, x.natAbs ≤ F + k.natAbs * E := by
  induction a generalizing b with
  | nil => intro x hx; simp [sub] at hx
  | cons y a ih =>
    cases b with
    | nil => intro x hx; simp [sub] at hx
    | cons z b =>
      intro x hx
      have : x = y - k * z ∨ x ∈ sub k a b := by simpa [sub] using hx
      rcases this with rfl | hx
      · have h1 := ha y (List.mem_cons_self ..)
        have h2 := hb z (List.mem_cons_self ..)
        have h3 : (k * z).natAbs = k.natAbs * z.natAbs := Int.natAbs_mul _ _
        have h4 : k.natAbs * z.natAbs ≤ k.natAbs * E := Nat.mul_le_mul_left _ h2
        omega
      · exact ih (fun x hx => ha x (List.mem_cons_of_mem _ hx)) (fun x hx => hb x (List.mem_cons_of_mem _ hx)) x hx
theorem Bd.less {F E : Nat} {k : Int} {a b : Ln} (ha : Bd F a) (hb : Bd E b) : Bd (F + k.natAbs * E) (less k a b) :=
  ⟨bd_sub ha.1 hb.1, bd_sub ha.2 hb.2⟩
theorem Bd.turn {F : Nat} {a : Ln} (ha : Bd F a) : Bd F (turn a) := by
  constructor
  · intro x hx
    obtain ⟨y, hy, rfl⟩ := List.mem_map.1 hx
    rw [Int.natAbs_neg]
    exact ha.1 y hy
  · intro x hx
    obtain ⟨y, hy, rfl⟩ := List.mem_map.1 hx
    rw [Int.natAbs_neg]
    exact ha.2 y hy

/-- What a round makes of another line. -/
def lessq (c : Nat) (top a : Ln) : Ln := less (fq (at_ c a) (at_ c top)) a top
theorem at_lessq {n m c : Nat} {top a : Ln} (ht : Sized n m top) (ha : Sized n m a) : at_ c (lessq c top a) = at_ c a - at_ c top * fq (at_ c a) (at_ c top) := by
  unfold lessq at_ less
  show (sub _ a.1 top.1).getD c 0 = _
  rw [sub_getD (by rw [ht.1, ha.1]), Int.mul_comm]
theorem at_lessq_zero {n m c : Nat} {top a : Ln} (ht : Sized n m top) (ha : Sized n m a) (h0 : at_ c a = 0) : at_ c (lessq c top a) = 0 := by
  rw [at_lessq ht ha, h0, fq_zero, Int.mul_zero]
  rfl
theorem rem_spec {n m c : Nat} {top a : Ln} (ht : Sized n m top) (ha : Sized n m a) (h0 : at_ c top ≠ 0) :
    0 ≤ at_ c (lessq c top a) ∧ at_ c (lessq c top a) < at_ c top ∨ at_ c top < at_ c (lessq c top a) ∧ at_ c (lessq c top a) ≤ 0 := by
  rw [at_lessq ht ha]
  exact (fq_spec h0).2
theorem Sized.lessq {n m c : Nat} {top a : Ln} (ht : Sized n m top) (ha : Sized n m a) : Sized n m (lessq c top a) := ha.less ht

theorem same_lessq {n m : Nat} {c : Nat} {a : Ln} {R : List Ln} (hc : c < n) (ha : Sized n m a) (hR : ∀ r ∈ R, Sized n m r) :
    Same (rows n (a :: R)) (rows n (a :: R.map (lessq c a))) := by
  have h := Same.clear (row n a) (R.map (row n)) (fun r => fq (r c) (row n a c))
  have e : (R.map (row n)).map (fun r => fun j => r j - (fun r : Row => fq (r c) (row n a c)) r * row n a j) = (R.map (lessq c a)).map (row n) := by
    rw [List.map_map, List.map_map]
    apply List.map_congr_left
    intro r hr
    show _ = row n (lessq c a r)
    unfold lessq
    rw [row_less (hR r hr) ha]
    funext j
    show row n r j - fq (row n r c) (row n a c) * row n a j = _
    rw [row_at r hc, row_at a hc]
    rfl
  rw [e] at h
  exact h

/-- How many lines are not zero in a column. -/
def nz (c : Nat) (L : List Ln) : Nat := L.countP (fun l => decide (at_ c l ≠ 0))
/-- A line with the least element that is not zero. -/
def Least (c : Nat) (l : Ln) (L : List Ln) : Prop := at_ c l ≠ 0 ∧ ∀ l' ∈ L, at_ c l' ≠ 0 → (at_ c l).natAbs ≤ (at_ c l').natAbs
theorem exists_least_ (c : Nat) : ∀ (L : List Ln), (∃ l ∈ L, at_ c l ≠ 0) → ∃ l ∈ L, Least c l L := by
  intro L
  induction L with
  | nil => rintro ⟨l, hl, _⟩; cases hl
  | cons a L ih =>
    rintro ⟨l, hl, h0⟩
    by_cases hL : ∃ l ∈ L, at_ c l ≠ 0
    · obtain ⟨b, hb, hb0, hb1⟩ := ih hL
      by_cases ha : at_ c a ≠ 0 ∧ (at_ c a).natAbs < (at_ c b).natAbs
      · refine ⟨a, List.mem_cons_self .., ha.1, fun l' hl' h' => ?_⟩
        rcases List.mem_cons.1 hl' with rfl | hl'
        · exact Nat.le_refl _
        · exact Nat.le_trans (Nat.le_of_lt ha.2) (hb1 l' hl' h')
      · refine ⟨b, List.mem_cons_of_mem _ hb, hb0, fun l' hl' h' => ?_⟩
        rcases List.mem_cons.1 hl' with rfl | hl'
        · rcases Nat.lt_or_ge (at_ c l').natAbs (at_ c b).natAbs with h | h
          · exact absurd ⟨h', h⟩ ha
          · exact h
        · exact hb1 l' hl' h'
    · rcases List.mem_cons.1 hl with rfl | hl
      · refine ⟨l, List.mem_cons_self .., h0, fun l' hl' h' => ?_⟩
        rcases List.mem_cons.1 hl' with rfl | hl'
        · exact Nat.le_refl _
        · exact absurd ⟨l', hl', h'⟩ hL
      · exact absurd ⟨l, hl, h0⟩ hL

/-- The state behind the first round: all elements have one sign, the greatest is M, and the numbers' bound has room. -/
def Pot (c T : Nat) (L : List Ln) : Prop := ∃ (s : Int) (F M : Nat), (s = 1 ∨ s = -1) ∧ (∀ l ∈ L, Bd F l) ∧ (∀ l ∈ L, 0 ≤ s * at_ c l ∧ s * at_ c l ≤ M) ∧ (∃ l ∈ L, s * at_ c l = M) ∧ 0 < M ∧
  ∀ l ∈ L, Least c l L → F * M * ((M * (at_ c l).natAbs) * (M * (at_ c l).natAbs)) ≤ T
def Last (c B : Nat) (L : List Ln) : Prop := (∀ l ∈ L, Bd B l) ∧ nz c L = 1
def TB (F : Nat) : Nat := F * (F + 2) * F * ((F * F) * (F * F))
/-- The bound for one sweep. -/
def FB (F : Nat) : Nat := 3 * TB F + F * (F + 2)
def St (c F : Nat) (L : List Ln) : Prop := (∀ l ∈ L, Bd F l) ∨ Pot c (TB F) L ∨ Last c (3 * TB F) L

theorem F_le_FB (F : Nat) : F ≤ FB F := by
  unfold FB
  have : F * 1 ≤ F * (F + 2) := Nat.mul_le_mul_left _ (by omega)
  omega
theorem le_mul_pos (a : Nat) {b : Nat} (h : 0 < b) : a ≤ a * b := Nat.le_mul_of_pos_right _ h
theorem St.bd {c F : Nat} {L : List Ln} (h : St c F L) : ∀ l ∈ L, Bd (FB F) l := by
  rcases h with h | ⟨s, F', M, hs, hF, _, ⟨l0, hl0, hm⟩, hM, hP⟩ | h
  · exact fun l hl => (h l hl).mono (F_le_FB F)
  · intro l hl
    refine (hF l hl).mono ?_
    obtain ⟨b, hb, hL⟩ := exists_least_ c L ⟨l0, hl0, fun h => by rw [h] at hm; simp at hm; omega⟩
    have h1 := hP b hb hL
    have h2 : 0 < (at_ c b).natAbs := by have := hL.1; omega
    have h3 : 0 < M * (at_ c b).natAbs := Nat.mul_pos hM h2
    have h4 := le_mul_pos F' hM
    have h5 := le_mul_pos (F' * M) (Nat.mul_pos h3 h3)
    unfold FB
    omega
  · exact fun l hl => (h.1 l hl).mono (by unfold FB; omega)

theorem nz_perm {c : Nat} {A B : List Ln} (h : A.Perm B) : nz c A = nz c B := h.countP_eq _
theorem Least.perm {c : Nat} {l : Ln} {A B : List Ln} (h : A.Perm B) (hl : Least c l A) : Least c l B := ⟨hl.1, fun l' hl' => hl.2 l' (h.mem_iff.2 hl')⟩
theorem St.perm {c F : Nat} {A B : List Ln} (h : A.Perm B) (hs : St c F A) : St c F B := by
  rcases hs with hs | ⟨s, F', M, h1, h2, h3, ⟨l0, hl0, h4⟩, h5, h6⟩ | hs
  · exact .inl fun l hl => hs l (h.mem_iff.2 hl)
  · exact .inr (.inl ⟨s, F', M, h1, fun l hl => h2 l (h.mem_iff.2 hl), fun l hl => h3 l (h.mem_iff.2 hl), ⟨l0, h.mem_iff.1 hl0, h4⟩, h5, fun l hl hL => h6 l (h.mem_iff.2 hl) (hL.perm h.symm)⟩)
  · exact .inr (.inr ⟨fun l hl => hs.1 l (h.mem_iff.2 hl), (nz_perm h).symm.trans hs.2⟩)

/-- The measure of the rounds. -/
def Ms (c k : Nat) (L : List Ln) : Prop := ∀ l ∈ L, Least c l L → 2 * (at_ c l).natAbs + (if 1 < nz c L then 1 else 0) < k
theorem Ms.perm {c k : Nat} {A B : List Ln} (h : A.Perm B) (hs : Ms c k A) : Ms c k B := fun l hl hL => by
  rw [← nz_perm h]
  exact hs l (h.mem_iff.2 hl) (hL.perm h.symm)
theorem Ms.start {c F : Nat} {L : List Ln} (h : ∀ l ∈ L, Bd F l) : Ms c (2 * F + 2) L := fun l hl _ => by
  have := (h l hl).at_ c
  split <;> omega

theorem nz_zero {c : Nat} {L : List Ln} (h : ∀ l ∈ L, at_ c l = 0) : nz c L = 0 := by
  unfold nz
  rw [List.countP_eq_zero]
  intro l hl
  simp [h l hl]
theorem nz_cons {c : Nat} {a : Ln} (L : List Ln) (h : at_ c a ≠ 0) : nz c (a :: L) = nz c L + 1 := by
  unfold nz
  rw [List.countP_cons_of_pos (by simpa using h)]
theorem zero_of_nz {c : Nat} {L : List Ln} (h : nz c L = 0) : ∀ l ∈ L, at_ c l = 0 := by
  unfold nz at h
  rw [List.countP_eq_zero] at h
  intro l hl
  have := h l hl
  simpa using this

/-- All elements of a round's result: zero or less than the first one's. -/
theorem round_lt {n m c : Nat} {top : Ln} {R : List Ln} (ht : Sized n m top) (hR : ∀ r ∈ R, Sized n m r) (h0 : at_ c top ≠ 0) :
    ∀ r ∈ R.map (lessq c top), (at_ c r).natAbs < (at_ c top).natAbs := by
  intro r hr
  obtain ⟨a, ha, rfl⟩ := List.mem_map.1 hr
  have := rem_spec (c := c) ht (hR a ha) h0
  omega
theorem Ms.round {n m c k : Nat} {top : Ln} {R : List Ln} (ht : Sized n m top) (hR : ∀ r ∈ R, Sized n m r) (hL : Least c top (top :: R)) (h1 : nz c (top :: R) ≠ 1) (hk : Ms c k (top :: R)) :
    ∃ k', k' < k ∧ Ms c k' (top :: R.map (lessq c top)) := by
  have h2 : 1 < nz c (top :: R) := by
    have := nz_cons R hL.1
    omega
  have h3 := hk top (List.mem_cons_self ..) hL
  rw [if_pos h2] at h3
  refine ⟨2 * (at_ c top).natAbs + 1, by omega, ?_⟩
  intro l hl hl'
  have hlt := round_lt ht hR hL.1
  rcases List.mem_cons.1 hl with rfl | hl
  · have : nz c (R.map (lessq c l)) = 0 := by
      apply nz_zero
      intro r hr
      have h4 := hlt r hr
      have h5 := hl'.2 r (List.mem_cons_of_mem _ hr)
      by_cases h : at_ c r = 0
      · exact h
      · have := h5 h; omega
    rw [nz_cons _ hL.1, this, if_neg (by omega)]
    omega
  · have := hlt l hl
    split <;> omega

theorem mul_bound {F k m M : Nat} (h : k * m ≤ M + m) : (F + k * F) * m ≤ F * (M + 2 * m) := by
  have h1 : F * (k * m) ≤ F * (M + m) := Nat.mul_le_mul_left _ h
  have e1 : (F + k * F) * m = F * m + F * (k * m) := by rw [Nat.add_mul, Nat.mul_comm k F, Nat.mul_assoc]
  have e2 : F * (M + 2 * m) = F * m + F * (M + m) := by rw [← Nat.mul_add]; congr 1; omega
  omega

/-- The first round. -/
theorem Pot.first {n m c F : Nat} {top : Ln} {R : List Ln} (ht : Sized n m top) (hR : ∀ r ∈ R, Sized n m r) (hB : ∀ l ∈ top :: R, Bd F l) (hL : Least c top (top :: R)) :
    Pot c (TB F) (top :: R.map (lessq c top)) := by
  have hlt := round_lt (c := c) ht hR hL.1
  have hF : 0 < F := by
    have := (hB top (List.mem_cons_self ..)).at_ c
    have := hL.1
    omega
  obtain ⟨s, hs, hst⟩ : ∃ s : Int, (s = 1 ∨ s = -1) ∧ s * at_ c top = (at_ c top).natAbs := by
    rcases Int.lt_trichotomy (at_ c top) 0 with h | h | h
    · exact ⟨-1, .inr rfl, by omega⟩
    · exact absurd h hL.1
    · exact ⟨1, .inl rfl, by omega⟩
  have htop := (hB top (List.mem_cons_self ..)).at_ c
  refine ⟨s, F * (F + 2), (at_ c top).natAbs, hs, ?_, ?_, ⟨top, List.mem_cons_self .., hst⟩, by have := hL.1; omega, ?_⟩
  · intro l hl
    rcases List.mem_cons.1 hl with rfl | hl
    · exact (hB l (List.mem_cons_self ..)).mono (Nat.le_mul_of_pos_right _ (by omega))
    · obtain ⟨a, ha, rfl⟩ := List.mem_map.1 hl
      have hq : (fq (at_ c a) (at_ c top)).natAbs ≤ F := Nat.le_trans (fq_abs hL.1) ((hB a (List.mem_cons_of_mem _ ha)).at_ c)
      refine ((hB a (List.mem_cons_of_mem _ ha)).less (k := fq (at_ c a) (at_ c top)) (hB top (List.mem_cons_self ..))).mono ?_
      have := Nat.mul_le_mul_right F hq
      have e : F * (F + 2) = F * F + F + F := by rw [Nat.mul_add]; omega
      omega
  · intro l hl
    rcases List.mem_cons.1 hl with rfl | hl
    · rw [hst]; exact ⟨by omega, Int.le_refl _⟩
    · obtain ⟨a, ha, rfl⟩ := List.mem_map.1 hl
      have := rem_spec (c := c) ht (hR a ha) hL.1
      rcases hs with rfl | rfl <;> omega
  · intro l hl hl'
    have h1 := hl'.2 top (List.mem_cons_self ..) hL.1
    have h2 : (at_ c top).natAbs * (at_ c l).natAbs ≤ F * F := Nat.mul_le_mul htop (Nat.le_trans h1 htop)
    unfold TB
    exact Nat.mul_le_mul (Nat.mul_le_mul_left _ htop) (Nat.mul_le_mul h2 h2)

theorem pot_arith {F F' M m m' T : Nat} (hT : F * M * ((M * m) * (M * m)) ≤ T) (hm : 2 * m' ≤ M) (hmM : m ≤ M) (hF : F' * m ≤ F * (M + 2 * m)) : F' * m * ((m * m') * (m * m')) ≤ T := by
  have h1 : F' * m ≤ F * (3 * M) := Nat.le_trans hF (Nat.mul_le_mul_left _ (by omega))
  have h2 : (2 * m') * (2 * m') ≤ M * M := Nat.mul_le_mul hm hm
  have e1 : F * M * ((M * m) * (M * m)) = (F * M * (m * m)) * (M * M) := by
    simp only [Nat.mul_assoc, Nat.mul_left_comm, Nat.mul_comm]
  have e2 : F' * m * ((m * m') * (m * m')) = (F' * m) * (m * m) * (m' * m') := by
    simp only [Nat.mul_assoc, Nat.mul_left_comm, Nat.mul_comm]
  have h3 : (F' * m) * (m * m) * (m' * m') ≤ (F * (3 * M)) * (m * m) * (m' * m') := Nat.mul_le_mul_right _ (Nat.mul_le_mul_right _ h1)
  have e3 : (F * (3 * M)) * (m * m) * (m' * m') = 3 * ((F * M * (m * m)) * (m' * m')) := by
    simp only [Nat.mul_assoc, Nat.mul_left_comm, Nat.mul_comm]
  have h4 : (F * M * (m * m)) * ((2 * m') * (2 * m')) ≤ (F * M * (m * m)) * (M * M) := Nat.mul_le_mul_left _ h2
  have e4 : (F * M * (m * m)) * ((2 * m') * (2 * m')) = 4 * ((F * M * (m * m)) * (m' * m')) := by
    simp only [Nat.mul_assoc, Nat.mul_left_comm, Nat.mul_comm, show (4 : Nat) = 2 * 2 from rfl]
  omega

theorem Pot.round {n m c T : Nat} {top : Ln} {R : List Ln} (ht : Sized n m top) (hR : ∀ r ∈ R, Sized n m r) (hL : Least c top (top :: R)) (hP : Pot c T (top :: R)) :
    Pot c T (top :: R.map (lessq c top)) ∨ Last c (3 * T) (top :: R.map (lessq c top)) := by
  obtain ⟨s, F, M, hs, hF, hb, ⟨l0, hl0, hm⟩, hM, hpot⟩ := hP
  have hlt := round_lt (c := c) ht hR hL.1
  have hst := hb top (List.mem_cons_self ..)
  have hst' : s * at_ c top = (at_ c top).natAbs := by rcases hs with rfl | rfl <;> omega
  have hpt := hpot top (List.mem_cons_self ..) hL
  have hm0 : 0 < (at_ c top).natAbs := by have := hL.1; omega
  have hmM : (at_ c top).natAbs ≤ M := by omega
  -- the numbers
  have hbd : ∀ l ∈ top :: R.map (lessq c top), ∃ k : Nat, k * (at_ c top).natAbs ≤ M + (at_ c top).natAbs ∧ Bd (F + k * F) l := by
    intro l hl
    rcases List.mem_cons.1 hl with rfl | hl
    · exact ⟨0, by omega, (hF l (List.mem_cons_self ..)).mono (by omega)⟩
    · obtain ⟨a, ha, rfl⟩ := List.mem_map.1 hl
      refine ⟨(fq (at_ c a) (at_ c top)).natAbs, ?_, (hF a (List.mem_cons_of_mem _ ha)).less (hF top (List.mem_cons_self ..))⟩
      have h1 := fq_bound (a := at_ c a) hL.1
      have h2 := hb a (List.mem_cons_of_mem _ ha)
      have : (at_ c a).natAbs ≤ M := by rcases hs with rfl | rfl <;> omega
      omega
  obtain ⟨K, hK, hKm⟩ : ∃ K : Nat, K * (at_ c top).natAbs ≤ M + (at_ c top).natAbs ∧ ∀ k : Nat, k * (at_ c top).natAbs ≤ M + (at_ c top).natAbs → k ≤ K :=
    ⟨(M + (at_ c top).natAbs) / (at_ c top).natAbs, Nat.div_mul_le_self _ _, fun k hk => (Nat.le_div_iff_mul_le hm0).2 hk⟩
  have hBd : ∀ l ∈ top :: R.map (lessq c top), Bd (F + K * F) l := fun l hl => by
    obtain ⟨k, hk, hb⟩ := hbd l hl
    exact hb.mono (by have := Nat.mul_le_mul_right F (hKm k hk); omega)
  have hFm := mul_bound (F := F) hK
  by_cases hq : (at_ c top).natAbs = M
  · -- all are as great: the others become zero
    refine .inr ⟨fun l hl => (hBd l hl).mono ?_, ?_⟩
    · rw [hq] at hFm hpt
      have h1 : (F + K * F) * M ≤ F * M * 3 := by
        have : F * (M + 2 * M) = F * M * 3 := by rw [show M + 2 * M = M * 3 by omega, Nat.mul_assoc]
        omega
      have h2 := le_mul_pos (F + K * F) hM
      have h3 := le_mul_pos (F * M) (Nat.mul_pos (Nat.mul_pos hM hM) (Nat.mul_pos hM hM))
      omega
    · rw [nz_cons _ hL.1, nz_zero]
      intro r hr
      obtain ⟨a, ha, rfl⟩ := List.mem_map.1 hr
      by_cases h0 : at_ c a = 0
      · exact at_lessq_zero ht (hR a ha) h0
      · have h1 := hL.2 a (List.mem_cons_of_mem _ ha) h0
        have h2 := hb a (List.mem_cons_of_mem _ ha)
        have h3 : at_ c a = at_ c top := by rcases hs with rfl | rfl <;> omega
        rw [at_lessq ht (hR a ha), h3]
        have : fq (at_ c top) (at_ c top) = 1 := (fq_unique hL.1 (r := 0) (by omega) (by have := hL.1; omega)).symm
        rw [this]
        omega
  · refine .inl ⟨s, F + K * F, (at_ c top).natAbs, hs, hBd, ?_, ⟨top, List.mem_cons_self .., hst'⟩, hm0, ?_⟩
    · intro l hl
      rcases List.mem_cons.1 hl with rfl | hl
      · omega
      · obtain ⟨a, ha, rfl⟩ := List.mem_map.1 hl
        have := rem_spec (c := c) ht (hR a ha) hL.1
        rcases hs with rfl | rfl <;> omega
    · intro l hl hl'
      refine pot_arith hpt ?_ hmM hFm
      have h1 := hl'.2 top (List.mem_cons_self ..) hL.1
      -- the line with M
      have hl0R : l0 ∈ R := by
        rcases List.mem_cons.1 hl0 with rfl | h
        · omega
        · exact h
      have h2 := rem_spec (c := c) ht (hR l0 hl0R) hL.1
      have h3 := at_lessq (c := c) ht (hR l0 hl0R)
      have h4 := hl'.2 _ (List.mem_cons_of_mem _ (List.mem_map.2 ⟨l0, hl0R, rfl⟩))
      obtain ⟨q, hq'⟩ : ∃ q, q = fq (at_ c l0) (at_ c top) := ⟨_, rfl⟩
      rw [← hq'] at h3
      obtain ⟨r, hr'⟩ : ∃ r, r = at_ c (lessq c top l0) := ⟨_, rfl⟩
      rw [← hr'] at h2 h3 h4
      have h5 : (at_ c top * q) = at_ c l0 - r := by omega
      have h6 : 1 ≤ q := by
        rcases Int.lt_or_le q 1 with h | h
        · exfalso
          rcases hs with rfl | rfl
          · have : at_ c top * q ≤ at_ c top * 0 := Int.mul_le_mul_of_nonneg_left (by omega) (by omega)
            omega
          · have : (-at_ c top) * q ≤ (-at_ c top) * 0 := Int.mul_le_mul_of_nonneg_left (by omega) (by omega)
            rw [Int.neg_mul] at this
            omega
        · exact h
      by_cases hr0 : r = 0
      · have h7 : 2 ≤ q := by
          rcases Int.lt_or_le q 2 with h | h
          · exfalso
            obtain rfl : q = 1 := by omega
            rcases hs with rfl | rfl <;> omega
          · exact h
        rcases hs with rfl | rfl
        · have : at_ c top * 2 ≤ at_ c top * q := Int.mul_le_mul_of_nonneg_left (by omega) (by omega)
          omega
        · have : (-at_ c top) * 2 ≤ (-at_ c top) * q := Int.mul_le_mul_of_nonneg_left (by omega) (by omega)
          rw [Int.neg_mul, Int.neg_mul] at this
          omega
      · have h8 := h4 hr0
        rcases hs with rfl | rfl
        · have : at_ c top * 1 ≤ at_ c top * q := Int.mul_le_mul_of_nonneg_left (by omega) (by omega)
          omega
        · have : (-at_ c top) * 1 ≤ (-at_ c top) * q := Int.mul_le_mul_of_nonneg_left (by omega) (by omega)
          rw [Int.neg_mul, Int.neg_mul] at this
          omega

theorem St.round {n m c F : Nat} {top : Ln} {R : List Ln} (ht : Sized n m top) (hR : ∀ r ∈ R, Sized n m r) (hL : Least c top (top :: R)) (h1 : nz c (top :: R) ≠ 1) (hS : St c F (top :: R)) :
    St c F (top :: R.map (lessq c top)) := by
  rcases hS with h | h | h
  · exact .inr (.inl (Pot.first ht hR h hL))
  · rcases Pot.round ht hR hL h with h | h
    · exact .inr (.inl h)
    · exact .inr (.inr h)
  · exact absurd h.2 h1

/-- Where a sweep stands. -/
structure Sw (n m c F : Nat) (L0 L : List Ln) : Prop where
  len : L.length = L0.length
  sized : ∀ l ∈ L, Sized n m l
  same : Same (rows n L0) (rows n L)
  st : St c F L
theorem rows_perm {n : Nat} {A B : List Ln} (h : A.Perm B) : (rows n A).Perm (rows n B) := h.map _
theorem Sw.perm {n m c F : Nat} {L0 L L' : List Ln} (h : Sw n m c F L0 L) (hp : L.Perm L') : Sw n m c F L0 L' :=
  ⟨hp.length_eq.symm.trans h.len, fun l hl => h.sized l (hp.mem_iff.2 hl), h.same.trans (Same.perm (rows_perm hp)), h.st.perm hp⟩
theorem Sw.round {n m c F : Nat} {L0 : List Ln} {top : Ln} {R : List Ln} (hc : c < n) (h : Sw n m c F L0 (top :: R)) (hL : Least c top (top :: R)) (h1 : nz c (top :: R) ≠ 1) :
    Sw n m c F L0 (top :: R.map (lessq c top)) := by
  have ht := h.sized top (List.mem_cons_self ..)
  have hR : ∀ r ∈ R, Sized n m r := fun r hr => h.sized r (List.mem_cons_of_mem _ hr)
  refine ⟨by rw [← h.len]; simp, ?_, h.same.trans (same_lessq hc ht hR), h.st.round ht hR hL h1⟩
  intro l hl
  rcases List.mem_cons.1 hl with rfl | hl
  · exact ht
  · obtain ⟨a, ha, rfl⟩ := List.mem_map.1 hl
    exact ht.lessq (hR a ha)
theorem Sw.start {n m c F : Nat} {L0 : List Ln} (hs : ∀ l ∈ L0, Sized n m l) (hB : ∀ l ∈ L0, Bd F l) : Sw n m c F L0 L0 := ⟨rfl, hs, Same.refl _, .inl hB⟩

/-- The scan for the least element. -/
structure Scan (c : Nat) (L : List Ln) (i : Nat) (b : Int) (r : Nat) : Prop where
  count : r = nz c (L.take i)
  none : b < 0 → b = -1 ∧ ∀ l ∈ L.take i, at_ c l = 0
  some : 0 ≤ b → b < i ∧ Least c (L.getD b.toNat ([], [])) (L.take i)
theorem Scan.start (c : Nat) (L : List Ln) : Scan c L 0 (-1) 0 := ⟨rfl, fun _ => ⟨rfl, fun l hl => by simp at hl⟩, fun h => by omega⟩
theorem take_succ_getD {L : List Ln} {i : Nat} (hi : i < L.length) : L.take (i + 1) = L.take i ++ [L.getD i ([], [])] := by
  rw [List.take_add_one, List.getD_eq_getElem?_getD, List.getElem?_eq_getElem hi]; rfl
theorem nz_append (c : Nat) (A B : List Ln) : nz c (A ++ B) = nz c A + nz c B := by unfold nz; rw [List.countP_append]
theorem Scan.skip {c : Nat} {L : List Ln} {i : Nat} {b : Int} {r : Nat} (h : Scan c L i b r) (hi : i < L.length) (h0 : at_ c (L.getD i ([], [])) = 0) : Scan c L (i + 1) b r := by
  constructor
  · rw [take_succ_getD hi, nz_append, h.count, nz_zero (L := [_]) (by intro l hl; rw [List.mem_singleton.1 hl]; exact h0)]
    rfl
  · intro hb
    refine ⟨(h.none hb).1, fun l hl => ?_⟩
    rw [take_succ_getD hi] at hl
    rcases List.mem_append.1 hl with hl | hl
    · exact (h.none hb).2 l hl
    · rw [List.mem_singleton.1 hl]; exact h0
  · intro hb
    refine ⟨by have := (h.some hb).1; omega, (h.some hb).2.1, fun l hl hl0 => ?_⟩
    rw [take_succ_getD hi] at hl
    rcases List.mem_append.1 hl with hl | hl
    · exact (h.some hb).2.2 l hl hl0
    · rw [List.mem_singleton.1 hl] at hl0; exact absurd h0 hl0
theorem Scan.take_ {c : Nat} {L : List Ln} {i : Nat} {b : Int} {r : Nat} (h : Scan c L i b r) (hi : i < L.length) (h0 : at_ c (L.getD i ([], [])) ≠ 0)
    (hn : 0 ≤ b → (at_ c (L.getD i ([], []))).natAbs < (at_ c (L.getD b.toNat ([], []))).natAbs) : Scan c L (i + 1) i (r + 1) := by
  constructor
  · rw [take_succ_getD hi, nz_append, h.count, nz_cons _ h0]
    rfl
  · intro hb; omega
  · intro _
    refine ⟨by omega, ?_⟩
    rw [Int.toNat_natCast]
    refine ⟨h0, fun l hl hl0 => ?_⟩
    rw [take_succ_getD hi] at hl
    rcases List.mem_append.1 hl with hl | hl
    · by_cases hb : b < 0
      · exact absurd ((h.none hb).2 l hl) hl0
      · have := hn (by omega)
        have := (h.some (by omega)).2.2 l hl hl0
        omega
    · rw [List.mem_singleton.1 hl]; exact Nat.le_refl _
theorem Scan.keep {c : Nat} {L : List Ln} {i : Nat} {b : Int} {r : Nat} (h : Scan c L i b r) (hi : i < L.length) (h0 : at_ c (L.getD i ([], [])) ≠ 0) (hb0 : 0 ≤ b)
    (hn : ¬ (at_ c (L.getD i ([], []))).natAbs < (at_ c (L.getD b.toNat ([], []))).natAbs) : Scan c L (i + 1) b (r + 1) := by
  constructor
  · rw [take_succ_getD hi, nz_append, h.count, nz_cons _ h0]
    rfl
  · intro hb; omega
  · intro _
    refine ⟨by have := (h.some hb0).1; omega, (h.some hb0).2.1, fun l hl hl0 => ?_⟩
    rw [take_succ_getD hi] at hl
    rcases List.mem_append.1 hl with hl | hl
    · exact (h.some hb0).2.2 l hl hl0
    · rw [List.mem_singleton.1 hl]; omega

/-- What a sweep leaves. -/
structure SwEnd (n m c F : Nat) (L0 L : List Ln) (found : Bool) : Prop where
  len : L.length = L0.length
  sized : ∀ l ∈ L, Sized n m l
  same : Same (rows n L0) (rows n L)
  bd : ∀ l ∈ L, Bd (FB F) l
  no : found = false → ∀ l ∈ L, at_ c l = 0
  yes : found = true → ∃ top R, L = top :: R ∧ at_ c top ≠ 0 ∧ ∀ r ∈ R, at_ c r = 0
end Go.Proofs.YtmfkpmepgbjmkaaGreatDoor.Ln

namespace Go.Proofs.YtmfkpmepgbjmkaaGreatDoor.Ln
open Go.Proofs.YtmfkpmepgbjmkaaGreatDoor.Hnf

def GB (F : Nat) : Nat := (F + 1) * FB F
theorem FB_le_GB (F : Nat) : FB F ≤ GB F := Nat.le_mul_of_pos_left _ (by omega)
theorem F_le_GB (F : Nat) : F ≤ GB F := Nat.le_trans (F_le_FB F) (FB_le_GB F)
theorem pw (D : Nat) : 0 < 10 ^ D := Nat.pow_pos (by decide)
theorem FB_pow {F P : Nat} (h : F + 1 ≤ P) : FB F ≤ 8 * (P * ((P * P) * (P * P) * (P * P))) := by
  have h0 : F ≤ P := by omega
  have h1 : F + 2 ≤ 2 * P := by omega
  have h2 : F * F ≤ P * P := Nat.mul_le_mul h0 h0
  have h3 : TB F ≤ 2 * (P * ((P * P) * (P * P) * (P * P))) := by
    have h4 : TB F ≤ P * (2 * P) * P * ((P * P) * (P * P)) := Nat.mul_le_mul (Nat.mul_le_mul (Nat.mul_le_mul h0 h1) h0) (Nat.mul_le_mul h2 h2)
    have e : P * (2 * P) * P * ((P * P) * (P * P)) = 2 * (P * ((P * P) * (P * P) * (P * P))) := by
      simp only [Nat.mul_assoc, Nat.mul_left_comm, Nat.mul_comm]
    omega
  have h5 : F * (F + 2) ≤ P * (2 * P) := Nat.mul_le_mul h0 h1
  have h6 : 0 < P := by omega
  have h7 : P * (2 * P) ≤ 2 * (P * ((P * P) * (P * P) * (P * P))) := by
    have h8 := le_mul_pos (P * P) (show 0 < P * ((P * P) * (P * P)) from Nat.mul_pos h6 (Nat.mul_pos (Nat.mul_pos h6 h6) (Nat.mul_pos h6 h6)))
    have e : P * P * (P * ((P * P) * (P * P))) = P * ((P * P) * (P * P) * (P * P)) := by
      simp only [Nat.mul_assoc, Nat.mul_left_comm, Nat.mul_comm]
    have e2 : P * (2 * P) = 2 * (P * P) := by simp only [Nat.mul_left_comm]
    omega
  unfold FB
  omega
theorem pow7 (D : Nat) : 10 ^ D * ((10 ^ D * 10 ^ D) * (10 ^ D * 10 ^ D) * (10 ^ D * 10 ^ D)) = 10 ^ (7 * D) := by
  simp only [← Nat.pow_add]
  congr 1
  omega
theorem FB_lt {F D : Nat} (h : F < 10 ^ D) : FB F < 10 ^ (7 * D + 1) := by
  have h1 := FB_pow (show F + 1 ≤ 10 ^ D from h)
  rw [pow7] at h1
  rw [Nat.pow_succ]
  have := pw (7 * D)
  omega
theorem GB_lt {F D : Nat} (h : F < 10 ^ D) : GB F < 10 ^ (8 * D + 1) := by
  have h1 := FB_pow (show F + 1 ≤ 10 ^ D from h)
  rw [pow7] at h1
  have h2 : GB F ≤ 10 ^ D * (8 * 10 ^ (7 * D)) := Nat.mul_le_mul h h1
  have e : 10 ^ D * (8 * 10 ^ (7 * D)) = 8 * 10 ^ (8 * D) := by
    rw [Nat.mul_left_comm, ← Nat.pow_add]
    congr 2
    omega
  rw [Nat.pow_succ]
  have := pw (8 * D)
  omega

/-- Digits and bounds behind c columns. -/
def dg : Nat → Nat → Nat
  | 0, D => D
  | c + 1, D => 8 * dg c D + 1
def gb : Nat → Nat → Nat
  | 0, F => F
  | c + 1, F => GB (gb c F)
theorem gb_lt {F D : Nat} (h : F < 10 ^ D) (c : Nat) : gb c F < 10 ^ (dg c D) := by
  induction c with
  | zero => exact h
  | succ c ih => exact GB_lt ih
theorem dg_mono {c d : Nat} (h : c ≤ d) (D : Nat) : dg c D ≤ dg d D := by
  induction d with
  | zero => obtain rfl : c = 0 := by omega
            exact Nat.le_refl _
  | succ d ih =>
    by_cases hc : c ≤ d
    · have := ih hc
      show dg c D ≤ 8 * dg d D + 1
      omega
    · obtain rfl : c = d + 1 := by omega
      exact Nat.le_refl _
theorem dg_pos {D : Nat} (hD : 1 ≤ D) (c : Nat) : 1 ≤ dg c D := Nat.le_trans hD (dg_mono (Nat.zero_le c) D)

/-- Where an echelon stands ahead of column c: D is done, R the rest. -/
structure Ech (n m c G : Nat) (L0 D R : List Ln) : Prop where
  len : (D ++ R).length = L0.length
  sized : ∀ l ∈ D ++ R, Sized n m l
  same : Same (rows n L0) (rows n (D ++ R))
  bd : ∀ l ∈ D ++ R, Bd G l
  form : FormU c 0 (rows n D)
  zero : ∀ r ∈ R, ∀ j, j < c → at_ j r = 0
theorem Ech.start {n m G : Nat} {L0 : List Ln} (hs : ∀ l ∈ L0, Sized n m l) (hb : ∀ l ∈ L0, Bd G l) : Ech n m 0 G L0 [] L0 :=
  ⟨rfl, hs, Same.refl _, hb, trivial, fun _ _ j hj => by omega⟩
theorem rows_append (n : Nat) (A B : List Ln) : rows n (A ++ B) = rows n A ++ rows n B := List.map_append
theorem Ech.rest {n m c G : Nat} {L0 D R : List Ln} (h : Ech n m c G L0 D R) : (∀ l ∈ R, Sized n m l) ∧ ∀ l ∈ R, Bd G l :=
  ⟨fun l hl => h.sized l (List.mem_append_right _ hl), fun l hl => h.bd l (List.mem_append_right _ hl)⟩
/-- Behind the sweep. -/
theorem Ech.swept {n m c G : Nat} {L0 D R R' : List Ln} {f : Bool} (hc : c ≤ n) (h : Ech n m c G L0 D R) (hS : SwEnd n m c G R R' f) : Ech n m c (FB G) L0 D R' := by
  refine ⟨?_, ?_, ?_, ?_, h.form, ?_⟩
  · rw [List.length_append, hS.len, ← List.length_append]; exact h.len
  · intro l hl
    rcases List.mem_append.1 hl with hl | hl
    · exact h.sized l (List.mem_append_left _ hl)
    · exact hS.sized l hl
  · refine h.same.trans ?_
    rw [rows_append, rows_append]
    exact hS.same.append_left _
  · intro l hl
    rcases List.mem_append.1 hl with hl | hl
    · exact (h.bd l (List.mem_append_left _ hl)).mono (F_le_FB G)
    · exact hS.bd l hl
  · intro r hr j hj
    have := vanish_of_same (j := j) hS.same (fun a ha => by rw [row_at a (by omega)]; exact h.zero a ha j hj) r hr
    rw [row_at r (by omega)] at this
    exact this
theorem Ech.miss {n m c G : Nat} {L0 D R : List Ln} (h : Ech n m c G L0 D R) (h0 : ∀ l ∈ R, at_ c l = 0) : Ech n m (c + 1) G L0 D R :=
  ⟨h.len, h.sized, h.same, h.bd, h.form.mono (by omega), fun r hr j hj => by
    by_cases hjc : j = c
    · subst hjc; exact h0 r hr
    · exact h.zero r hr j (by omega)⟩
theorem Ech.more {n m c G G' : Nat} {L0 D R : List Ln} (hG : G ≤ G') (h : Ech n m c G L0 D R) : Ech n m c G' L0 D R :=
  ⟨h.len, h.sized, h.same, fun l hl => (h.bd l hl).mono hG, h.form, h.zero⟩
theorem Ech.turned {n m c G : Nat} {L0 D R : List Ln} {top : Ln} (h : Ech n m c G L0 D (top :: R)) : Ech n m c G L0 D (turn top :: R) := by
  refine ⟨by have := h.len; simpa using this, ?_, ?_, ?_, h.form, ?_⟩
  · intro l hl
    rcases List.mem_append.1 hl with hl | hl
    · exact h.sized l (List.mem_append_left _ hl)
    · rcases List.mem_cons.1 hl with rfl | hl
      · exact (h.sized top (List.mem_append_right _ (List.mem_cons_self ..))).turn
      · exact h.sized l (List.mem_append_right _ (List.mem_cons_of_mem _ hl))
  · refine h.same.trans ?_
    rw [rows_append, rows_append]
    exact (same_turn n top R).append_left _
  · intro l hl
    rcases List.mem_append.1 hl with hl | hl
    · exact h.bd l (List.mem_append_left _ hl)
    · rcases List.mem_cons.1 hl with rfl | hl
      · exact (h.bd top (List.mem_append_right _ (List.mem_cons_self ..))).turn
      · exact h.bd l (List.mem_append_right _ (List.mem_cons_of_mem _ hl))
  · intro r hr j hj
    rcases List.mem_cons.1 hr with rfl | hr
    · have := h.zero top (List.mem_cons_self ..) j hj
      unfold at_ turn at *
      rw [neg_getD, this]
      rfl
    · exact h.zero r (List.mem_cons_of_mem _ hr) j hj
theorem Ech.hit {n m c G F : Nat} {L0 D R : List Ln} {top : Ln} (hc : c < n) (hDF : ∀ l ∈ D, Bd F l) (hGF : G = FB F) (h : Ech n m c G L0 D (top :: R)) (hp : 0 < at_ c top) (h0 : ∀ r ∈ R, at_ c r = 0) :
    Ech n m (c + 1) (GB F) L0 (D.map (lessq c top) ++ [top]) R := by
  have ht : Sized n m top := h.sized top (List.mem_append_right _ (List.mem_cons_self ..))
  have hD : ∀ r ∈ D, Sized n m r := fun r hr => h.sized r (List.mem_append_left _ hr)
  have hbt : Bd G top := h.bd top (List.mem_append_right _ (List.mem_cons_self ..))
  have hab := same_above (c := c) hc ht hD
  have e : (D.map fun r => less (r.1.getD c 0 / top.1.getD c 0) r top) = D.map (lessq c top) := by
    apply List.map_congr_left
    intro r _
    unfold lessq fq
    rw [if_pos hp]
    rfl
  rw [e] at hab
  refine ⟨?_, ?_, ?_, ?_, ?_, ?_⟩
  · have := h.len; simpa using this
  · intro l hl
    rcases List.mem_append.1 hl with hl | hl
    · rcases List.mem_append.1 hl with hl | hl
      · obtain ⟨r, hr, rfl⟩ := List.mem_map.1 hl
        exact ht.lessq (hD r hr)
      · rw [List.mem_singleton.1 hl]; exact ht
    · exact h.sized l (List.mem_append_right _ (List.mem_cons_of_mem _ hl))
  · refine h.same.trans ?_
    have e2 : D ++ top :: R = (D ++ [top]) ++ R := by simp
    rw [e2, rows_append, rows_append n (_ ++ [top])]
    exact hab.1.append_right _
  · intro l hl
    rcases List.mem_append.1 hl with hl | hl
    · rcases List.mem_append.1 hl with hl | hl
      · obtain ⟨r, hr, rfl⟩ := List.mem_map.1 hl
        refine ((hDF r hr).less (k := fq (at_ c r) (at_ c top)) hbt).mono ?_
        have h1 : (fq (at_ c r) (at_ c top)).natAbs ≤ F := Nat.le_trans (fq_abs (by omega)) ((hDF r hr).at_ c)
        have h2 := Nat.mul_le_mul_right G h1
        have h3 := F_le_FB F
        unfold GB
        rw [Nat.add_mul, ← hGF]
        omega
      · rw [List.mem_singleton.1 hl]; exact hbt.mono (hGF ▸ FB_le_GB F)
    · exact (h.bd l (List.mem_append_right _ (List.mem_cons_of_mem _ hl))).mono (hGF ▸ FB_le_GB F)
  · exact hab.2 hp (fun j hj => h.zero top (List.mem_cons_self ..) j hj) h.form
  · intro r hr j hj
    by_cases hjc : j = c
    · subst hjc; exact h0 r hr
    · exact h.zero r (List.mem_cons_of_mem _ hr) j (by omega)
end Go.Proofs.YtmfkpmepgbjmkaaGreatDoor.Ln

namespace Go.Proofs.YtmfkpmepgbjmkaaGreatDoor.Hnf

/-- Rows with pivots (of any sign), from the column lo on. -/
def WE (lo : Nat) : List Row → Prop
  | [] => True
  | a :: A => ∃ p, lo ≤ p ∧ (∀ j, j < p → a j = 0) ∧ a p ≠ 0 ∧ WE (p + 1) A
theorem Form.we {A : List Row} : ∀ {lo : Nat}, Form lo A → WE lo A := by
  induction A with
  | nil => intro _ _; trivial
  | cons a A ih =>
    rintro lo ⟨p, h1, h2, h3, h4, _⟩
    exact ⟨p, h1, h2, by omega, ih h4⟩
theorem WE.smul {A : List Row} {t : Int} (ht : t ≠ 0) : ∀ {lo : Nat}, WE lo A → WE lo (A.map fun a => fun j => t * a j) := by
  induction A with
  | nil => intro _ _; trivial
  | cons a A ih =>
    rintro lo ⟨p, h1, h2, h3, h4⟩
    exact ⟨p, h1, fun j hj => by show t * a j = 0; rw [h2 j hj, Int.mul_zero], Int.mul_ne_zero ht h3, ih h4⟩
theorem InL.lin {A : List Row} {x y : Row} (k l : Int) (hx : InL A x) (hy : InL A y) : InL A (fun j => k * x j - l * y j) := (hx.smul k).sub (hy.smul l)

/-- One row less in the span. -/
theorem we_elim (b : Row) (B : List Row) : ∀ (F : List Row) (lo : Nat), WE lo F → (∀ f ∈ F, InL (b :: B) f) →
    (∀ f ∈ F, InL B f) ∨ ∃ (F' : List Row) (e : Row) (k : Int), WE lo F' ∧ F'.length + 1 = F.length ∧ (∀ f ∈ F', InL B f) ∧ k ≠ 0 ∧ InL B (fun j => e j - k * b j) ∧ ∀ j, j < lo → e j = 0 := by
  intro F
  induction F with
  | nil => intro lo _ _; exact .inl (fun f hf => by cases hf)
  | cons a A ih =>
    rintro lo ⟨p, hlo, hz, hp, hA⟩ hF
    obtain ⟨l, hl⟩ := hF a (List.mem_cons_self ..)
    rcases ih (p + 1) hA (fun f hf => hF f (List.mem_cons_of_mem _ hf)) with h | ⟨F', e, k, h1, h2, h3, h4, h5, h6⟩
    · by_cases hl0 : l = 0
      · subst hl0
        refine .inl (fun f hf => ?_)
        rcases List.mem_cons.1 hf with rfl | hf
        · exact hl.congr (fun j => by simp)
        · exact h f hf
      · refine .inr ⟨A, a, l, ?_, rfl, h, hl0, hl, fun j hj => hz j (by omega)⟩
        have key : ∀ {A : List Row} {lo lo' : Nat}, lo' ≤ lo → WE lo A → WE lo' A := by
          intro A lo lo' hh h
          cases A with
          | nil => trivial
          | cons a A => obtain ⟨p, g1, g⟩ := h; exact ⟨p, by omega, g⟩
        exact key (by omega) hA
    · refine .inr ⟨(fun j => k * a j - l * e j) :: F', e, k, ⟨p, hlo, fun j hj => ?_, ?_, h1⟩, by simp [h2], fun f hf => ?_, h4, h5, fun j hj => h6 j (by omega)⟩
      · show k * a j - l * e j = 0
        rw [hz j hj, h6 j (by omega)]; simp
      · show k * a p - l * e p ≠ 0
        rw [h6 p (by omega), Int.mul_zero, Int.sub_zero]
        exact Int.mul_ne_zero h4 hp
      · rcases List.mem_cons.1 hf with rfl | hf
        · exact (InL.lin k l hl h5).congr (fun j => by grind)
        · exact h3 f hf
/-- A span of s rows has at most s pivots. -/
theorem we_rank : ∀ (B F : List Row) (lo : Nat), WE lo F → (∀ f ∈ F, InL B f) → F.length ≤ B.length := by
  intro B
  induction B with
  | nil =>
    intro F lo hF h
    cases F with
    | nil => exact Nat.le_refl _
    | cons a A => obtain ⟨p, _, _, hp, _⟩ := hF; exact absurd (h a (List.mem_cons_self ..) p) hp
  | cons b B ih =>
    intro F lo hF h
    rcases we_elim b B F lo hF h with h' | ⟨F', e, k, h1, h2, h3, _⟩
    · have := ih F lo hF h'
      rw [List.length_cons]; omega
    · have := ih F' lo h1 h3
      rw [List.length_cons]; omega

/-- Rows with positive pivots, and their product. -/
def EP (lo : Nat) : List Row → Int → Prop
  | [], P => P = 1
  | a :: A, P => ∃ p Q, lo ≤ p ∧ (∀ j, j < p → a j = 0) ∧ 0 < a p ∧ EP (p + 1) A Q ∧ P = a p * Q
theorem EP.we {A : List Row} : ∀ {lo : Nat} {P : Int}, EP lo A P → WE lo A := by
  induction A with
  | nil => intro _ _ _; trivial
  | cons a A ih =>
    rintro lo P ⟨p, Q, h1, h2, h3, h4, _⟩
    exact ⟨p, h1, h2, by omega, ih h4⟩
theorem EP.pos {A : List Row} : ∀ {lo : Nat} {P : Int}, EP lo A P → 0 < P := by
  induction A with
  | nil => intro lo P h; have h : P = 1 := h; omega
  | cons a A ih =>
    rintro lo P ⟨p, Q, h1, h2, h3, h4, rfl⟩
    exact Int.mul_pos h3 (ih h4)
theorem Form.ep {A : List Row} : ∀ {lo : Nat}, Form lo A → ∃ P, EP lo A P := by
  induction A with
  | nil => intro _ _; exact ⟨1, rfl⟩
  | cons a A ih =>
    rintro lo ⟨p, h1, h2, h3, h4, _⟩
    obtain ⟨Q, hQ⟩ := ih h4
    exact ⟨a p * Q, p, Q, h1, h2, h3, hQ, rfl⟩
theorem WE.vanish {A : List Row} : ∀ {lo : Nat}, WE lo A → ∀ {x : Row}, InL A x → ∀ j, j < lo → x j = 0 := by
  induction A with
  | nil => intro lo _ x hx j _; exact hx j
  | cons a A ih =>
    rintro lo ⟨p, hlo, hz, hp, hA⟩ x ⟨k, hx⟩ j hj
    have := ih hA hx j (by omega)
    rw [hz j (by omega)] at this
    simpa using this
theorem WE.below {A : List Row} {a : Row} {p : Nat} (hA : WE (p + 1) A) (hp : a p ≠ 0) {x : Row} (h : InL (a :: A) x) (hx : x p = 0) : InL A x := by
  obtain ⟨k, h⟩ := h
  have h1 := hA.vanish h p (by omega)
  have h1 : x p - k * a p = 0 := h1
  rw [hx] at h1
  have hk : k = 0 := by
    have : k * a p = 0 := by omega
    rcases Int.mul_eq_zero.1 this with h | h
    · exact h
    · exact absurd h hp
  subst hk
  exact h.congr (fun j => by simp)
/-- The product of the pivots is the lattice's. -/
theorem EP.unique {A : List Row} : ∀ {lo lo' : Nat} {B : List Row} {P Q : Int}, EP lo A P → EP lo' B Q → Same A B → P = Q := by
  induction A with
  | nil =>
    intro lo lo' B P Q hA hB h
    cases B with
    | nil => have hA : P = 1 := hA; have hB : Q = 1 := hB; omega
    | cons b B =>
      obtain ⟨p, _, _, _, hp, _⟩ := hB
      have := (h b).2 (.head b B) p
      omega
  | cons a A ih =>
    intro lo lo' B P Q hA hB h
    cases B with
    | nil =>
      obtain ⟨p, _, _, _, hp, _⟩ := hA
      have := (h a).1 (.head a A) p
      omega
    | cons b B =>
      obtain ⟨p, P', hlo, hz, hp, hA', rfl⟩ := hA
      obtain ⟨q, Q', hlo', hz', hq, hB', rfl⟩ := hB
      have wA : WE p (a :: A) := ⟨p, Nat.le_refl _, hz, by omega, hA'.we⟩
      have wB : WE q (b :: B) := ⟨q, Nat.le_refl _, hz', by omega, hB'.we⟩
      have ha : InL (b :: B) a := (h a).1 (.head a A)
      have hb : InL (a :: A) b := (h b).2 (.head b B)
      have hpq : p = q := by
        rcases Nat.lt_trichotomy p q with h1 | h1 | h1
        · have := wB.vanish ha p h1; omega
        · exact h1
        · have := wA.vanish hb q h1; omega
      subst hpq
      obtain ⟨k, ha'⟩ := ha
      obtain ⟨l, hb'⟩ := hb
      have e1 : a p = k * b p := by have : a p - k * b p = 0 := hB'.we.vanish ha' p (by omega); omega
      have e2 : b p = l * a p := by have : b p - l * a p = 0 := hA'.we.vanish hb' p (by omega); omega
      have e : a p = b p := by
        have hk : 0 < k := by
          apply Int.pos_of_mul_pos_left (b := b p) ?_ hq
          · omega
        have hl : 0 < l := by
          apply Int.pos_of_mul_pos_left (b := a p) ?_ hp
          · omega
        have h1 : 1 * b p ≤ k * b p := Int.mul_le_mul_of_nonneg_right (by omega) (by omega)
        have h2 : 1 * a p ≤ l * a p := Int.mul_le_mul_of_nonneg_right (by omega) (by omega)
        omega
      have hAB : Same A B := by
        intro x
        constructor
        · intro hx
          exact hB'.we.below (by omega) ((h x).1 hx.tail) (hA'.we.vanish hx p (by omega))
        · intro hx
          exact hA'.we.below (by omega) ((h x).2 hx.tail) (hB'.we.vanish hx p (by omega))
      rw [ih hA' hB' hAB, e]

theorem bezout : ∀ (a b : Nat), ∃ u v : Int, (Nat.gcd a b : Int) = u * a + v * b := by
  intro a b
  induction a, b using Nat.gcd.induction with
  | H0 b => exact ⟨0, 1, by simp⟩
  | H1 a b _ ih =>
    obtain ⟨u, v, h⟩ := ih
    refine ⟨v - u * (b / a : Nat), u, ?_⟩
    rw [Nat.gcd_rec, h]
    have h2 := Nat.div_add_mod b a
    have h3 : (b : Int) = a * (b / a : Nat) + (b % a : Nat) := by
      have := congrArg (fun n : Nat => (n : Int)) h2
      simpa using this.symm
    generalize ((b / a : Nat) : Int) = d at *
    generalize ((b % a : Nat) : Int) = m at *
    rw [h3]
    grind
theorem bezout_int (a b : Int) : ∃ u v : Int, (Int.gcd a b : Int) = u * a + v * b := by
  obtain ⟨u, v, h⟩ := bezout a.natAbs b.natAbs
  have ha : ∃ s : Int, (a.natAbs : Int) = s * a := by
    rcases Int.natAbs_eq a with h | h
    · exact ⟨1, by omega⟩
    · exact ⟨-1, by omega⟩
  have hb : ∃ s : Int, (b.natAbs : Int) = s * b := by
    rcases Int.natAbs_eq b with h | h
    · exact ⟨1, by omega⟩
    · exact ⟨-1, by omega⟩
  obtain ⟨s, hs⟩ := ha
  obtain ⟨t, ht⟩ := hb
  refine ⟨u * s, v * t, ?_⟩
  show ((Nat.gcd a.natAbs b.natAbs : Nat) : Int) = _
  rw [h, hs, ht]
  grind

/-- Linear on a lattice. -/
def LinOn (A : List Row) (f : Row → Int) : Prop := ∀ x y k, InL A x → InL A y → f (fun j => x j - k * y j) = f x - k * f y
theorem LinOn.zero {A : List Row} {f : Row → Int} (h : LinOn A f) : f (fun _ => 0) = 0 := by
  have := h (fun _ => 0) (fun _ => 0) 1 (.zero A) (.zero A)
  have e : (fun j : Nat => (0 : Int) - 1 * 0) = fun _ => 0 := by funext j; simp
  rw [e] at this
  omega
/-- The rows of an echelon at which a linear function is divided by k. -/
theorem sub_lattice (f : Row → Int) (k : Int) (hk : 0 < k) : ∀ (F : List Row) (lo : Nat) (P : Int), EP lo F P → LinOn F f →
    ∃ (G : List Row) (Q g : Int), EP lo G Q ∧ G.length = F.length ∧ (∀ x, InL G x ↔ InL F x ∧ k ∣ f x) ∧ 0 < g ∧ g ∣ k ∧ (∀ x, InL F x → g ∣ f x) ∧ (∃ x, InL F x ∧ k ∣ f x - g) ∧ Q * g = P * k := by
  intro F
  induction F with
  | nil =>
    intro lo P hP hf
    have hP : P = 1 := hP
    have h0 : ∀ x : Row, InL [] x → f x = 0 := by
      intro x hx
      have : x = fun _ => 0 := funext hx
      rw [this]; exact hf.zero
    refine ⟨[], 1, k, rfl, rfl, fun x => ⟨fun h => ⟨h, ?_⟩, fun h => h.1⟩, hk, Int.dvd_refl k, fun x h => ?_, ⟨fun _ => 0, fun _ => rfl, ?_⟩, by rw [hP]⟩
    · rw [h0 x h]; exact Int.dvd_zero k
    · rw [h0 x h]; exact Int.dvd_zero k
    · rw [hf.zero]; exact ⟨-1, by omega⟩
  | cons a A ih =>
    rintro lo P ⟨p, P', hlo, hz, hp, hA, rfl⟩ hf
    obtain ⟨B, Q', gA, hB, hlen, hin, hg0, hgk, hgf, ⟨xA, hxA, hxk⟩, hQ⟩ := ih (p + 1) P' hA (fun x y k hx hy => hf x y k hx.tail hy.tail)
    obtain ⟨g, hg⟩ : ∃ g : Int, g = (Int.gcd gA (f a) : Int) := ⟨_, rfl⟩
    obtain ⟨u, v, huv⟩ := bezout_int gA (f a)
    rw [← hg] at huv
    obtain ⟨β, hβ⟩ : g ∣ gA := hg ▸ Int.gcd_dvd_left ..
    obtain ⟨α, hα⟩ : g ∣ f a := hg ▸ Int.gcd_dvd_right ..
    have hgp : 0 < g := by
      have h1 : 0 ≤ g := by omega
      rcases Int.lt_or_eq_of_le h1 with h | h
      · exact h
      · rw [← h, Int.zero_mul] at hβ; omega
    have hβp : 0 < β := by
      apply Int.pos_of_mul_pos_right (a := g) ?_ hgp
      omega
    have hza : InL A (fun j => 0 - α * xA j) := InL.sub (.zero A) (hxA.smul α)
    have hfz : f (fun j => 0 - α * xA j) = - (α * f xA) := by
      have := hf (fun _ => 0) xA α (.zero _) hxA.tail
      rw [hf.zero] at this
      rw [this]; omega
    -- the new row
    let b : Row := fun j => β * a j - α * xA j
    have hbF : InL (a :: A) b := InL.lin β α (.head a A) hxA.tail
    have hfs : ∀ (t : Int) x, InL (a :: A) x → f (fun j => t * x j) = t * f x := by
      intro t x hx
      have := hf (fun _ => 0) x (-t) (.zero _) hx
      rw [hf.zero] at this
      have e : (fun j => (0 : Int) - -t * x j) = fun j => t * x j := by funext j; grind
      rw [e] at this
      rw [this]; grind
    have hfb : f b = β * f a - α * f xA := by
      have h1 := hf (fun j => β * a j) xA α ((InL.head a A).smul β) hxA.tail
      rw [hfs β a (.head a A)] at h1
      exact h1
    have hkb : k ∣ f b := by
      obtain ⟨t, ht⟩ := hxk
      refine ⟨- (α * t), ?_⟩
      have : f xA = k * t + gA := by omega
      rw [hfb, this, hα, hβ]
      grind
    have hbp : b p = β * a p := by
      show β * a p - α * xA p = β * a p
      rw [hA.we.vanish hxA p (by omega)]; omega
    refine ⟨b :: B, b p * Q', g, ⟨p, Q', hlo, fun j hj => ?_, ?_, hB, rfl⟩, by simp [hlen], fun x => ⟨?_, ?_⟩, hgp, ?_, ?_, ?_, ?_⟩
    · show β * a j - α * xA j = 0
      rw [hz j hj, hA.we.vanish hxA j (by omega)]; simp
    · rw [hbp]; exact Int.mul_pos hβp hp
    · rintro ⟨c, hc⟩
      have h1 := (hin _).1 hc
      have h2 : InL (a :: A) x := (h1.1.tail.add (hbF.smul c)).congr (fun j => by grind)
      refine ⟨h2, ?_⟩
      have h3 := hf x b c h2 hbF
      rw [h3] at h1
      have : f x = (f x - c * f b) + c * f b := by omega
      rw [this]
      exact Int.dvd_add h1.2 (Int.dvd_mul_of_dvd_right hkb)
    · rintro ⟨⟨c, hy⟩, hkx⟩
      have hx : InL (a :: A) x := ⟨c, hy⟩
      have hfy := hf x a c hx (.head a A)
      have hgy := hgf _ hy
      rw [hfy] at hgy
      have h1 : gA ∣ c * f a := by
        have h2 : gA ∣ f x := Int.dvd_trans hgk hkx
        have h3 := Int.dvd_sub h2 hgy
        have e : f x - (f x - c * f a) = c * f a := by omega
        rwa [e] at h3
      obtain ⟨s, hs⟩ := h1
      -- beta divides c
      have h4 : c = β * (u * c + v * s) := by
        have e1 : c * g = c * (u * gA + v * f a) := by rw [huv]
        have e2 : c * g = (β * (u * c + v * s)) * g := by
          rw [e1, show c * (u * gA + v * f a) = u * c * gA + v * (c * f a) by grind, hs, hβ]
          grind
        exact Int.eq_of_mul_eq_mul_right (by omega) e2
      obtain ⟨c', hc'⟩ : ∃ c', c = β * c' := ⟨_, h4⟩
      refine ⟨c', (hin _).2 ⟨?_, ?_⟩⟩
      · refine (hy.add (hxA.smul (c' * α))).congr (fun j => ?_)
        show x j - c * a j + c' * α * xA j = x j - c' * (β * a j - α * xA j)
        rw [hc']; grind
      · rw [hf x b c' hx hbF]
        exact Int.dvd_sub hkx (Int.dvd_mul_of_dvd_right hkb)
    · exact Int.dvd_trans ⟨β, hβ⟩ hgk
    · rintro x ⟨c, hy⟩
      have hx : InL (a :: A) x := ⟨c, hy⟩
      have hfy := hf x a c hx (.head a A)
      have hgy := Int.dvd_trans ⟨β, hβ⟩ (hgf _ hy)
      rw [hfy] at hgy
      have e : f x = (f x - c * f a) + c * f a := by omega
      rw [e]
      exact Int.dvd_add hgy (Int.dvd_mul_of_dvd_right ⟨α, hα⟩)
    · refine ⟨fun j => u * xA j - (-v) * a j, InL.lin u (-v) hxA.tail (.head a A), ?_⟩
      have h1 := hf (fun j => u * xA j) a (-v) (hxA.tail.smul u) (.head a A)
      rw [hfs u xA hxA.tail] at h1
      rw [h1, huv]
      have e : u * f xA - -v * f a - (u * gA + v * f a) = u * (f xA - gA) := by grind
      rw [e]
      exact Int.dvd_mul_of_dvd_right hxk
    · rw [hbp]
      have e1 : β * a p * Q' * g = a p * (Q' * (g * β)) := by grind
      rw [e1, ← hβ, hQ]
      grind

/-- m is no combination of other rows, if the form has as many rows as the matrix. -/
theorem indep {M1 M2 : List Row} {m : Row} {F : List Row} {P : Int} (hF : EP 0 F P) (hS : Same (M1 ++ m :: M2) F) (hl : F.length = (M1 ++ m :: M2).length) {t : Int} (h : InL (M1 ++ M2) (fun j => t * m j)) : t = 0 := by
  by_cases ht : t = 0
  · exact ht
  · exfalso
    have h1 : ∀ f ∈ F.map (fun a => fun j => t * a j), InL (M1 ++ M2) f := by
      intro f hf
      obtain ⟨a, ha, rfl⟩ := List.mem_map.1 hf
      have h2 : InL (M1 ++ m :: M2) a := (hS a).2 (.mem ha)
      obtain ⟨k, h3⟩ := (Same.perm List.perm_middle a).1 h2
      exact ((h3.smul t).add (h.smul k)).congr (fun j => by grind)
    have := we_rank _ _ 0 (hF.we.smul ht) h1
    simp only [List.length_map, List.length_append, List.length_cons] at this hl
    omega
/-- One row is multiplied. -/
theorem step_scale {M1 M2 : List Row} {m : Row} {F : List Row} {P k : Int} (hF : EP 0 F P) (hS : Same (M1 ++ m :: M2) F) (hl : F.length = (M1 ++ m :: M2).length) (hk : k ≠ 0) :
    ∃ G, EP 0 G (P * (k.natAbs : Int)) ∧ G.length = F.length ∧ Same (M1 ++ (fun j => k * m j) :: M2) G := by
  have hi : ∀ t, InL (M1 ++ M2) (fun j => t * m j) → t = 0 := fun t h => indep hF hS hl h
  have hS' : Same (m :: (M1 ++ M2)) F := (Same.perm List.perm_middle).symm.trans hS
  obtain ⟨f, hf⟩ : ∃ f : Row → Int, ∀ x t, InL (M1 ++ M2) (fun j => x j - t * m j) → f x = t := by
    refine ⟨fun x => Classical.epsilon (fun t => InL (M1 ++ M2) (fun j => x j - t * m j)), fun x t h => ?_⟩
    have h1 := Classical.epsilon_spec (p := fun t => InL (M1 ++ M2) (fun j => x j - t * m j)) ⟨t, h⟩
    have h2 := hi (t - Classical.epsilon (fun t => InL (M1 ++ M2) (fun j => x j - t * m j))) ((InL.sub h1 h).congr (fun j => by grind))
    show Classical.epsilon (fun t => InL (M1 ++ M2) (fun j => x j - t * m j)) = t
    omega
  have hlin : LinOn F f := by
    intro x y c hx hy
    obtain ⟨s, hs⟩ := (hS' x).2 hx
    obtain ⟨t, ht⟩ := (hS' y).2 hy
    rw [hf x s hs, hf y t ht]
    exact hf _ _ ((InL.lin 1 c hs ht).congr (fun j => by grind))
  obtain ⟨G, Q, g, hG, hlen, hin, hg0, _, hgf, _, hQ⟩ := sub_lattice f (k.natAbs : Int) (by omega) F 0 P hF hlin
  have hm : f m = 1 := hf m 1 ((InL.zero _).congr (fun j => by grind))
  have hg1 : g = 1 := by
    have h1 := hgf m ((hS' m).1 (.head _ _))
    rw [hm] at h1
    have := Int.le_of_dvd (by omega) h1
    omega
  subst hg1
  rw [Int.mul_one] at hQ
  subst hQ
  refine ⟨G, hG, hlen, (Same.perm List.perm_middle).trans (fun x => ?_)⟩
  rw [hin]
  constructor
  · rintro ⟨c, hc⟩
    have h1 : InL (M1 ++ M2) (fun j => x j - (c * k) * m j) := hc.congr (fun j => by grind)
    refine ⟨(hS' x).1 ⟨c * k, h1⟩, ?_⟩
    rw [hf x _ h1]
    exact Int.dvd_mul_of_dvd_right (Int.natAbs_dvd.2 (Int.dvd_refl k))
  · rintro ⟨hx, hd⟩
    obtain ⟨t, ht⟩ := (hS' x).2 hx
    rw [hf x t ht] at hd
    obtain ⟨c, hc⟩ := Int.natAbs_dvd.1 hd
    exact ⟨c, ht.congr (fun j => by rw [hc]; grind)⟩
/-- The multiplied rows. -/
def scl : List Int → List Row → List Row
  | k :: ks, m :: M => (fun j => k * m j) :: scl ks M
  | _, _ => []
def prodAbs : List Int → Int
  | [] => 1
  | k :: ks => (k.natAbs : Int) * prodAbs ks
theorem scl_len : ∀ (ks : List Int) (M : List Row), ks.length = M.length → (scl ks M).length = M.length := by
  intro ks
  induction ks with
  | nil => intro M h; cases M with | nil => rfl | cons m M => simp at h
  | cons k ks ih => intro M h; cases M with | nil => simp at h | cons m M => simp at h; simp [scl, ih M h]
/-- All rows are multiplied. -/
theorem chain_scale : ∀ (M2 : List Row) (ks : List Int) (M1 F : List Row) (P : Int), ks.length = M2.length → (∀ k ∈ ks, k ≠ 0) → EP 0 F P → Same (M1 ++ M2) F → F.length = (M1 ++ M2).length →
    ∃ G, EP 0 G (P * prodAbs ks) ∧ G.length = F.length ∧ Same (M1 ++ scl ks M2) G := by
  intro M2
  induction M2 with
  | nil =>
    intro ks M1 F P hk _ hF hS hl
    have : ks = [] := List.eq_nil_of_length_eq_zero hk
    subst this
    exact ⟨F, by show EP 0 F (P * 1); rw [Int.mul_one]; exact hF, rfl, hS⟩
  | cons m M2 ih =>
    intro ks M1 F P hk hn hF hS hl
    cases ks with
    | nil => simp at hk
    | cons k ks =>
      obtain ⟨G1, h1, h2, h3⟩ := step_scale hF hS hl (hn k (List.mem_cons_self ..))
      have e : ∀ (X : List Row) (r : Row), M1 ++ r :: X = (M1 ++ [r]) ++ X := by intro X r; simp
      rw [e] at h3
      obtain ⟨G, g1, g2, g3⟩ := ih ks (M1 ++ [fun j => k * m j]) G1 _ (by simpa using hk) (fun k' hk' => hn k' (List.mem_cons_of_mem _ hk')) h1 h3 (by
        rw [h2, hl]; simp only [List.length_append, List.length_cons, List.length_nil]; omega)
      refine ⟨G, ?_, by rw [g2, h2], ?_⟩
      · have e2 : P * prodAbs (k :: ks) = P * (k.natAbs : Int) * prodAbs ks := by
          show P * ((k.natAbs : Int) * prodAbs ks) = _
          rw [Int.mul_assoc]
        rw [e2]; exact g1
      · have e3 : M1 ++ scl (k :: ks) (m :: M2) = (M1 ++ [fun j => k * m j]) ++ scl ks M2 := by simp [scl]
        rw [e3]; exact g3
/-- The multiplied rows lie in the lattice, and a multiple of the lattice lies in theirs. -/
theorem scl_in : ∀ (ks : List Int) (M : List Row), ∀ x ∈ scl ks M, InL M x := by
  intro ks
  induction ks with
  | nil => intro M x hx; cases M <;> cases hx
  | cons k ks ih =>
    intro M x hx
    cases M with
    | nil => cases hx
    | cons m M =>
      rcases List.mem_cons.1 hx with rfl | hx
      · exact (InL.head m M).smul k
      · exact (ih M x hx).tail
theorem scl_mult : ∀ (ks : List Int) (M : List Row), ks.length = M.length → (∀ k ∈ ks, k ≠ 0) → ∃ K : Int, K ≠ 0 ∧ ∀ x, InL M x → InL (scl ks M) (fun j => K * x j) := by
  intro ks
  induction ks with
  | nil =>
    intro M h _
    have : M = [] := List.eq_nil_of_length_eq_zero h.symm
    subst this
    exact ⟨1, by decide, fun x hx => hx.congr (fun j => by simp)⟩
  | cons k ks ih =>
    intro M h hn
    cases M with
    | nil => simp at h
    | cons m M =>
      obtain ⟨K, hK, hin⟩ := ih M (by simpa using h) (fun k' hk' => hn k' (List.mem_cons_of_mem _ hk'))
      refine ⟨K * k, Int.mul_ne_zero hK (hn k (List.mem_cons_self ..)), ?_⟩
      rintro x ⟨c, hc⟩
      refine ⟨K * c, ?_⟩
      exact ((hin _ hc).smul k).congr (fun j => by grind)
end Go.Proofs.YtmfkpmepgbjmkaaGreatDoor.Hnf

namespace Go.Proofs.YtmfkpmepgbjmkaaGreatDoor.Hnf

/-- The determinants of rows a, b, .. in columns p, q, .., the last row with the column j. -/
def D2 (a b : Row) (p q : Nat) : Int := a p * b q - a q * b p
def T2 (a x : Row) (p : Nat) : Row := fun j => a p * x j - x p * a j
def T3 (a b x : Row) (p q : Nat) : Row := fun j => D2 a b p q * x j - D2 a x p q * b j + D2 b x p q * a j
def T4 (a b c x : Row) (p q r : Nat) : Row := fun j => T3 a b c p q r * x j - T3 a b x p q r * c j + T3 a c x p q r * b j - T3 b c x p q r * a j

theorem T2_p (a x : Row) (p : Nat) : T2 a x p p = 0 := by unfold T2; grind
theorem T3_p (a b x : Row) (p q : Nat) : T3 a b x p q p = 0 := by unfold T3 D2; grind
theorem T3_q (a b x : Row) (p q : Nat) : T3 a b x p q q = 0 := by unfold T3 D2; grind
theorem T4_p (a b c x : Row) (p q r : Nat) : T4 a b c x p q r p = 0 := by unfold T4 T3 D2; grind
theorem T4_q (a b c x : Row) (p q r : Nat) : T4 a b c x p q r q = 0 := by unfold T4 T3 D2; grind
theorem T4_r (a b c x : Row) (p q r : Nat) : T4 a b c x p q r r = 0 := by unfold T4 T3 D2; grind

theorem abs_mul {a b : Int} {A B : Nat} (ha : a.natAbs ≤ A) (hb : b.natAbs ≤ B) : (a * b).natAbs ≤ A * B := by
  rw [Int.natAbs_mul]; exact Nat.mul_le_mul ha hb
theorem D2_abs {a b : Row} {p q : Nat} (ha : ∀ j, (a j).natAbs ≤ 20) (hb : ∀ j, (b j).natAbs ≤ 20) : (D2 a b p q).natAbs ≤ 800 := by
  have h1 := abs_mul (ha p) (hb q)
  have h2 := abs_mul (ha q) (hb p)
  unfold D2
  generalize a p * b q = x at *
  generalize a q * b p = y at *
  omega
theorem T2_abs {a x : Row} {p : Nat} (ha : ∀ j, (a j).natAbs ≤ 20) (hx : ∀ j, (x j).natAbs ≤ 20) (j : Nat) : (T2 a x p j).natAbs ≤ 800 := by
  have h1 := abs_mul (ha p) (hx j)
  have h2 := abs_mul (hx p) (ha j)
  unfold T2
  generalize a p * x j = u at *
  generalize x p * a j = v at *
  omega
theorem T3_abs {a b x : Row} {p q : Nat} (ha : ∀ j, (a j).natAbs ≤ 20) (hb : ∀ j, (b j).natAbs ≤ 20) (hx : ∀ j, (x j).natAbs ≤ 20) (j : Nat) : (T3 a b x p q j).natAbs ≤ 48000 := by
  have h1 := abs_mul (D2_abs (p := p) (q := q) ha hb) (hx j)
  have h2 := abs_mul (D2_abs (p := p) (q := q) ha hx) (hb j)
  have h3 := abs_mul (D2_abs (p := p) (q := q) hb hx) (ha j)
  unfold T3
  generalize D2 a b p q * x j = u at *
  generalize D2 a x p q * b j = v at *
  generalize D2 b x p q * a j = z at *
  omega
theorem T4_abs {a b c x : Row} {p q r : Nat} (ha : ∀ j, (a j).natAbs ≤ 20) (hb : ∀ j, (b j).natAbs ≤ 20) (hc : ∀ j, (c j).natAbs ≤ 20) (hx : ∀ j, (x j).natAbs ≤ 20) (j : Nat) : (T4 a b c x p q r j).natAbs ≤ 3840000 := by
  have h1 := abs_mul (T3_abs (p := p) (q := q) ha hb hc r) (hx j)
  have h2 := abs_mul (T3_abs (p := p) (q := q) ha hb hx r) (hc j)
  have h3 := abs_mul (T3_abs (p := p) (q := q) ha hc hx r) (hb j)
  have h4 := abs_mul (T3_abs (p := p) (q := q) hb hc hx r) (ha j)
  unfold T4
  generalize T3 a b c p q r * x j = u at *
  generalize T3 a b x p q r * c j = v at *
  generalize T3 a c x p q r * b j = z at *
  generalize T3 b c x p q r * a j = t at *
  omega

/-- A linear map that is zero at all rows is zero on the lattice. -/
theorem lin_zero {A : List Row} (T : Row → Int) (hT : ∀ x y k, T (fun j => x j - k * y j) = T x - k * T y) (h0 : ∀ x : Row, (∀ j, x j = 0) → T x = 0) (h : ∀ a ∈ A, T a = 0) : ∀ {x : Row}, InL A x → T x = 0 := by
  induction A with
  | nil => intro x hx; exact h0 x hx
  | cons a A ih =>
    rintro x ⟨k, hx⟩
    have h1 := ih (fun b hb => h b (List.mem_cons_of_mem _ hb)) hx
    rw [hT, h a (List.mem_cons_self ..)] at h1
    omega
theorem lin_ex {A : List Row} (T : Row → Int) (hT : ∀ x y k, T (fun j => x j - k * y j) = T x - k * T y) (h0 : ∀ x : Row, (∀ j, x j = 0) → T x = 0) {x : Row} (hx : InL A x) (hn : T x ≠ 0) : ∃ a ∈ A, T a ≠ 0 := by
  by_cases h : ∃ a ∈ A, T a ≠ 0
  · exact h
  · refine absurd (lin_zero T hT h0 (fun a ha => ?_) hx) hn
    by_cases h' : T a = 0
    · exact h'
    · exact absurd ⟨a, ha, h'⟩ h

/-- y * t ≤ A + (B + y) * C gives t. -/
theorem quot_le {y t A B C : Nat} (hy : 1 ≤ y) (h : y * t ≤ A + (B + y) * C) : t ≤ A + (B + 1) * C := by
  have h1 : A + (B + y) * C ≤ y * (A + (B + 1) * C) := by
    have h2 : A ≤ y * A := Nat.le_mul_of_pos_left _ hy
    have h3 : B + y ≤ y * (B + 1) := by
      rw [Nat.mul_add, Nat.mul_one]
      have : B ≤ y * B := Nat.le_mul_of_pos_left _ hy
      omega
    have h4 := Nat.mul_le_mul_right C h3
    rw [Nat.mul_add, ← Nat.mul_assoc]
    omega
  exact Nat.le_of_mul_le_mul_left (Nat.le_trans h h1) hy
theorem abs_ne {y d : Int} (hy : y ≠ 0) : d.natAbs ≤ (y * d).natAbs := by
  rw [Int.natAbs_mul]
  exact Nat.le_mul_of_pos_left _ (by omega)
/-- The next multiple, from its pivot's column. -/
theorem mult_le {u s k d : Int} {U S : Nat} (hd : 0 < d) (h : u = s + k * d) (hu : u.natAbs ≤ U) (hs : s.natAbs ≤ S * d.natAbs) : k.natAbs ≤ U + S := by
  have h1 : (k * d).natAbs ≤ U + S * d.natAbs := by omega
  rw [Int.natAbs_mul] at h1
  have h2 : U + S * d.natAbs ≤ (U + S) * d.natAbs := by
    rw [Nat.add_mul]
    have : U ≤ U * d.natAbs := Nat.le_mul_of_pos_right _ (by omega)
    omega
  exact Nat.le_of_mul_le_mul_right (Nat.le_trans h1 h2) (by omega)
theorem part_le {y f d : Int} (h0 : 0 ≤ f) (h1 : f < d) : (y * f).natAbs ≤ y.natAbs * d.natAbs := by
  rw [Int.natAbs_mul]
  exact Nat.mul_le_mul (Nat.le_refl _) (by omega)

theorem bound1 {u f : Row} {y : Int} {U : Nat} (hy : y ≠ 0) (h : ∀ j, u j = y * f j) (hu : ∀ j, (u j).natAbs ≤ U) (j : Nat) : (f j).natAbs ≤ U := by
  have := abs_ne (d := f j) hy
  rw [← h j] at this
  exact Nat.le_trans this (hu j)
theorem bound2 {u f g : Row} {y z : Int} {U V : Nat} {p : Nat} (hy : y ≠ 0) (h : ∀ j, u j = y * f j + z * g j) (hu : ∀ j, (u j).natAbs ≤ U) (hg : ∀ j, (g j).natAbs ≤ V)
    (hp : 0 < g p) (h0 : 0 ≤ f p ∧ f p < g p) (j : Nat) : (f j).natAbs ≤ U + (U + 1) * V := by
  have h1 : z.natAbs ≤ U + y.natAbs := mult_le hp (h p) (hu p) (part_le h0.1 h0.2)
  refine quot_le (y := y.natAbs) (by omega) ?_
  have h2 := h j
  have h3 : (y * f j).natAbs ≤ (u j).natAbs + (z * g j).natAbs := by omega
  have h4 := abs_mul h1 (hg j)
  have h5 := hu j
  rw [Int.natAbs_mul] at h3
  omega
theorem bound3 {u f g k : Row} {y z t : Int} {U V W : Nat} {p q : Nat} (hy : y ≠ 0) (h : ∀ j, u j = y * f j + z * g j + t * k j) (hu : ∀ j, (u j).natAbs ≤ U) (hg : ∀ j, (g j).natAbs ≤ V) (hk : ∀ j, (k j).natAbs ≤ W)
    (hp : 0 < g p) (h0 : 0 ≤ f p ∧ f p < g p) (hz : k p = 0) (hq : 0 < k q) (h1 : 0 ≤ f q ∧ f q < k q) (h2 : 0 ≤ g q ∧ g q < k q) (j : Nat) : (f j).natAbs ≤ U + (U + 1) * V + (2 * U + 2) * W := by
  have e1 : u p = y * f p + z * g p := by have := h p; rw [hz] at this; omega
  have b1 : z.natAbs ≤ U + y.natAbs := mult_le hp e1 (hu p) (part_le h0.1 h0.2)
  have b2 : t.natAbs ≤ U + (y.natAbs + z.natAbs) := by
    refine mult_le hq (h q) (hu q) ?_
    have c1 := part_le (y := y) h1.1 h1.2
    have c2 := part_le (y := z) h2.1 h2.2
    rw [Nat.add_mul]
    omega
  have b3 : t.natAbs ≤ 2 * U + 2 * y.natAbs := by omega
  have hj := h j
  have h3 : (y * f j).natAbs ≤ (u j).natAbs + (z * g j).natAbs + (t * k j).natAbs := by omega
  have h4 := abs_mul b1 (hg j)
  have h5 := abs_mul b3 (hk j)
  have h6 := hu j
  rw [Int.natAbs_mul] at h3
  have e : (U + (U + 1) * V + (2 * U + 2) * W) = U + (U + 1) * (V + 2 * W) := by
    rw [show 2 * U + 2 = (U + 1) * 2 by omega, Nat.mul_assoc, Nat.add_assoc, ← Nat.mul_add]
  rw [e]
  refine quot_le (y := y.natAbs) (by omega) ?_
  have e2 : (U + y.natAbs) * (V + 2 * W) = (U + y.natAbs) * V + (2 * U + 2 * y.natAbs) * W := by
    rw [Nat.mul_add, ← Nat.mul_assoc]
    congr 2
    omega
  omega

theorem T2_lin (a : Row) (p j : Nat) (x y : Row) (k : Int) : T2 a (fun j => x j - k * y j) p j = T2 a x p j - k * T2 a y p j := by unfold T2; grind
theorem T3_lin (a b : Row) (p q j : Nat) (x y : Row) (k : Int) : T3 a b (fun j => x j - k * y j) p q j = T3 a b x p q j - k * T3 a b y p q j := by unfold T3 D2; grind
theorem T4_lin (a b c : Row) (p q r j : Nat) (x y : Row) (k : Int) : T4 a b c (fun j => x j - k * y j) p q r j = T4 a b c x p q r j - k * T4 a b c y p q r j := by unfold T4 T3 D2; grind
theorem T2_in {A : List Row} {a x : Row} (p : Nat) (ha : InL A a) (hx : InL A x) : InL A (T2 a x p) :=
  ((hx.smul (a p)).sub (ha.smul (x p))).congr (fun j => by unfold T2; grind)
theorem T3_in {A : List Row} {a b x : Row} (p q : Nat) (ha : InL A a) (hb : InL A b) (hx : InL A x) : InL A (T3 a b x p q) :=
  (((hx.smul (D2 a b p q)).sub (hb.smul (D2 a x p q))).add (ha.smul (D2 b x p q))).congr (fun j => by unfold T3; grind)
theorem T4_in {A : List Row} {a b c x : Row} (p q r : Nat) (ha : InL A a) (hb : InL A b) (hc : InL A c) (hx : InL A x) : InL A (T4 a b c x p q r) :=
  ((((hx.smul (T3 a b c p q r)).sub (hc.smul (T3 a b x p q r))).add (hb.smul (T3 a c x p q r))).sub (ha.smul (T3 b c x p q r))).congr (fun j => by unfold T4; grind)

/-- A row of a form's lattice that is zero at the first pivot. -/
theorem FormU.rest {hi p : Nat} {a : Row} {A : List Row} (hp : 0 < a p) (hA : FormU hi (p + 1) A) {x : Row} (h : InL (a :: A) x) (hx : x p = 0) : InL A x :=
  Form.below hA.form (by omega) h hx
theorem form_bound {A F : List Row} (hA : ∀ a ∈ A, ∀ j, (a j).natAbs ≤ 20) (hF : FormU 4 0 F) (hS : Same A F) (h4 : ∀ f ∈ F, ∀ j, 4 ≤ j → f j = 0) : ∀ f ∈ F, ∀ j, (f j).natAbs ≤ 1000000000 := by
  match F, hF, hS, h4 with
  | [], _, _, _ => intro f hf; cases hf
  | f1 :: F1, ⟨p, _, hp4, hz1, hp, hF1, hr1⟩, hS, h4 =>
  have hf1 : InL A f1 := (hS f1).2 (.head _ _)
  obtain ⟨a, haA, ha⟩ := lin_ex (fun x => x p) (fun _ _ _ => rfl) (fun x h => h p) hf1 (show f1 p ≠ 0 by omega)
  have ba := hA a haA
  have ia : InL (f1 :: F1) a := (hS a).1 (.mem haA)
  obtain ⟨y11, ia'⟩ := ia
  have e11 : a p = y11 * f1 p := by have := hF1.form.vanish ia' p (by omega); omega
  have hy11 : y11 ≠ 0 := by rintro rfl; rw [Int.zero_mul] at e11; exact ha e11
  match F1, hF1, hr1, hS, h4, ia' with
  | [], _, _, _, _, ia' =>
    intro f hf j
    obtain rfl : f = f1 := by simpa using hf
    have := bound1 (u := a) (f := f) hy11 (fun j => by have : a j - y11 * f j = 0 := ia' j; omega) ba j
    omega
  | f2 :: F2, ⟨q, hpq, hq4, hz2, hq, hF2, hr2⟩, hr1, hS, h4, ⟨y12, ia''⟩ =>
  have r12 := hr1 f2 (List.mem_cons_self ..) q hz2 (by omega)
  have z2p : f2 p = 0 := hz2 p (by omega)
  have hf2 : InL A f2 := (hS f2).2 (InL.head _ _).tail
  obtain ⟨b, hbA, hb⟩ := lin_ex (fun x => T2 a x p q) (fun x y k => T2_lin a p q x y k) (fun x h => by show a p * x q - x p * a q = 0; rw [h, h]; simp) hf2 (show T2 a f2 p q ≠ 0 by
    unfold T2
    rw [z2p, Int.zero_mul, Int.sub_zero]
    exact Int.mul_ne_zero ha (by omega))
  have bb := hA b hbA
  have iu2 : InL (f1 :: f2 :: F2) (T2 a b p) := (hS _).1 (T2_in p (.mem haA) (.mem hbA))
  have iu2 := FormU.rest (hi := 4) (A := f2 :: F2) hp ⟨q, hpq, hq4, hz2, hq, hF2, hr2⟩ iu2 (T2_p a b p)
  obtain ⟨y22, iu2'⟩ := iu2
  have e22 : T2 a b p q = y22 * f2 q := by have := hF2.form.vanish iu2' q (by omega); omega
  have hy22 : y22 ≠ 0 := by rintro rfl; rw [Int.zero_mul] at e22; exact hb e22
  have bu2 : ∀ j, (T2 a b p j).natAbs ≤ 800 := fun j => T2_abs ba bb j
  match F2, hF2, hr1, hr2, hS, h4, ia'', iu2' with
  | [], _, hr1, _, _, _, ia'', iu2' =>
    have B2 : ∀ j, (f2 j).natAbs ≤ 800 := fun j => bound1 (u := T2 a b p) hy22 (fun j => by have : T2 a b p j - y22 * f2 j = 0 := iu2' j; omega) bu2 j
    have B1 : ∀ j, (f1 j).natAbs ≤ 20 + (20 + 1) * 800 := fun j => bound2 (u := a) (z := y12) hy11 (fun j => by have : a j - y11 * f1 j - y12 * f2 j = 0 := ia'' j; omega) ba B2 hq r12 j
    intro f hf j
    rcases List.mem_cons.1 hf with rfl | hf
    · have := B1 j; omega
    · obtain rfl : f = f2 := by simpa using hf
      have := B2 j; omega
  | f3 :: F3, ⟨r, hqr, hr4, hz3, hr, hF3, hr3⟩, hr1, hr2, hS, h4, ⟨y13, ia3⟩, ⟨y23, iu3⟩ =>
  have r13 := hr1 f3 (by simp) r hz3 (by omega)
  have r23 := hr2 f3 (by simp) r hz3 (by omega)
  have z3p : f3 p = 0 := hz3 p (by omega)
  have z3q : f3 q = 0 := hz3 q (by omega)
  have hf3 : InL A f3 := (hS f3).2 (InL.head _ _).tail.tail
  have hD : D2 a b p q ≠ 0 := by
    have : D2 a b p q = T2 a b p q := by unfold D2 T2; grind
    rw [this]; exact hb
  obtain ⟨c, hcA, hc⟩ := lin_ex (fun x => T3 a b x p q r) (fun x y k => T3_lin a b p q r x y k) (fun x h => by show T3 a b x p q r = 0; unfold T3 D2; simp only [h]; simp) hf3 (show T3 a b f3 p q r ≠ 0 by
    have : T3 a b f3 p q r = D2 a b p q * f3 r := by unfold T3 D2; rw [z3p, z3q]; simp
    rw [this]
    exact Int.mul_ne_zero hD (by omega))
  have bc := hA c hcA
  have iu3' : InL (f1 :: f2 :: f3 :: F3) (T3 a b c p q) := (hS _).1 (T3_in p q (.mem haA) (.mem hbA) (.mem hcA))
  have iu3' := FormU.rest (hi := 4) (A := f2 :: f3 :: F3) hp ⟨q, hpq, hq4, hz2, hq, ⟨r, hqr, hr4, hz3, hr, hF3, hr3⟩, hr2⟩ iu3' (T3_p a b c p q)
  have iu3' := FormU.rest (hi := 4) (A := f3 :: F3) hq ⟨r, hqr, hr4, hz3, hr, hF3, hr3⟩ iu3' (T3_q a b c p q)
  obtain ⟨y33, iu33⟩ := iu3'
  have e33 : T3 a b c p q r = y33 * f3 r := by have := hF3.form.vanish iu33 r (by omega); omega
  have hy33 : y33 ≠ 0 := by rintro rfl; rw [Int.zero_mul] at e33; exact hc e33
  have bu3 : ∀ j, (T3 a b c p q j).natAbs ≤ 48000 := fun j => T3_abs ba bb bc j
  match F3, hF3, hr1, hr2, hr3, hS, h4, ia3, iu3, iu33 with
  | [], _, hr1, hr2, _, _, _, ia3, iu3, iu33 =>
    have B3 : ∀ j, (f3 j).natAbs ≤ 48000 := fun j => bound1 (u := T3 a b c p q) hy33 (fun j => by have : T3 a b c p q j - y33 * f3 j = 0 := iu33 j; omega) bu3 j
    have B2 : ∀ j, (f2 j).natAbs ≤ 800 + (800 + 1) * 48000 := fun j => bound2 (u := T2 a b p) (z := y23) hy22 (fun j => by have : T2 a b p j - y22 * f2 j - y23 * f3 j = 0 := iu3 j; omega) bu2 B3 hr r23 j
    have B1 : ∀ j, (f1 j).natAbs ≤ 20 + (20 + 1) * (800 + (800 + 1) * 48000) + (2 * 20 + 2) * 48000 := fun j => bound3 (u := a) (z := y12) (t := y13) hy11 (fun j => by have : a j - y11 * f1 j - y12 * f2 j - y13 * f3 j = 0 := ia3 j; omega) ba B2 B3 hq r12 z3q hr r13 r23 j
    intro f hf j
    rcases List.mem_cons.1 hf with rfl | hf
    · have := B1 j; omega
    rcases List.mem_cons.1 hf with rfl | hf
    · have := B2 j; omega
    · obtain rfl : f = f3 := by simpa using hf
      have := B3 j; omega
  | f4 :: F4, ⟨s, hrs, hs4, hz4, hs, hF4, hr4'⟩, hr1, hr2, hr3, hS, h4, ia3, iu3, iu33 =>
  obtain rfl : p = 0 := by omega
  obtain rfl : q = 1 := by omega
  obtain rfl : r = 2 := by omega
  obtain rfl : s = 3 := by omega
  have hF4e : F4 = [] := by
    match F4, hF4 with
    | [], _ => rfl
    | g :: _, ⟨t, ht, ht', _⟩ => omega
  subst hF4e
  have r14 := hr1 f4 (by simp) 3 hz4 (by omega)
  have r24 := hr2 f4 (by simp) 3 hz4 (by omega)
  have r34 := hr3 f4 (by simp) 3 hz4 (by omega)
  have z0 := hz4 0 (by omega)
  have z1 := hz4 1 (by omega)
  have z2 := hz4 2 (by omega)
  have hf4 : InL A f4 := (hS f4).2 (InL.head _ _).tail.tail.tail
  obtain ⟨d, hdA, hd⟩ := lin_ex (fun x => T4 a b c x 0 1 2 3) (fun x y k => T4_lin a b c 0 1 2 3 x y k) (fun x h => by show T4 a b c x 0 1 2 3 = 0; unfold T4 T3 D2; simp only [h]; simp) hf4 (show T4 a b c f4 0 1 2 3 ≠ 0 by
    have : T4 a b c f4 0 1 2 3 = T3 a b c 0 1 2 * f4 3 := by unfold T4 T3 D2; rw [z0, z1, z2]; simp
    rw [this]
    exact Int.mul_ne_zero hc (by omega))
  have bd := hA d hdA
  have iu4 : InL (f1 :: f2 :: f3 :: [f4]) (T4 a b c d 0 1 2) := (hS _).1 (T4_in 0 1 2 (.mem haA) (.mem hbA) (.mem hcA) (.mem hdA))
  have iu4 := FormU.rest (hi := 4) (A := f2 :: f3 :: [f4]) hp ⟨1, hpq, hq4, hz2, hq, ⟨2, hqr, hr4, hz3, hr, ⟨3, hrs, hs4, hz4, hs, trivial, hr4'⟩, hr3⟩, hr2⟩ iu4 (T4_p a b c d 0 1 2)
  have iu4 := FormU.rest (hi := 4) (A := f3 :: [f4]) hq ⟨2, hqr, hr4, hz3, hr, ⟨3, hrs, hs4, hz4, hs, trivial, hr4'⟩, hr3⟩ iu4 (T4_q a b c d 0 1 2)
  have iu4 := FormU.rest (hi := 4) (A := [f4]) hr ⟨3, hrs, hs4, hz4, hs, trivial, hr4'⟩ iu4 (T4_r a b c d 0 1 2)
  obtain ⟨y44, iu44⟩ := iu4
  have e44 : T4 a b c d 0 1 2 3 = y44 * f4 3 := by have : T4 a b c d 0 1 2 3 - y44 * f4 3 = 0 := iu44 3; omega
  have hy44 : y44 ≠ 0 := by rintro rfl; rw [Int.zero_mul] at e44; exact hd e44
  have bu4 : ∀ j, (T4 a b c d 0 1 2 j).natAbs ≤ 3840000 := fun j => T4_abs ba bb bc bd j
  have d1 : (f1 0).natAbs ≤ 20 := by have := abs_ne (d := f1 0) hy11; rw [← e11] at this; exact Nat.le_trans this (ba 0)
  have d2 : (f2 1).natAbs ≤ 800 := by have := abs_ne (d := f2 1) hy22; rw [← e22] at this; exact Nat.le_trans this (bu2 1)
  have d3 : (f3 2).natAbs ≤ 48000 := by have := abs_ne (d := f3 2) hy33; rw [← e33] at this; exact Nat.le_trans this (bu3 2)
  have d4 : (f4 3).natAbs ≤ 3840000 := by have := abs_ne (d := f4 3) hy44; rw [← e44] at this; exact Nat.le_trans this (bu4 3)
  intro f hf j
  by_cases hj : 4 ≤ j
  · rw [h4 f hf j hj]; decide
  have z2' := hz2 0 (by omega)
  have z31 := hz3 0 (by omega)
  have z32 := hz3 1 (by omega)
  have hj' : j = 0 ∨ j = 1 ∨ j = 2 ∨ j = 3 := by omega
  simp only [List.mem_cons, List.not_mem_nil, or_false] at hf
  rcases hf with rfl | rfl | rfl | rfl <;> rcases hj' with rfl | rfl | rfl | rfl <;> omega
end Go.Proofs.YtmfkpmepgbjmkaaGreatDoor.Hnf
