/-
  PLAIN MATHEMATICS: Hermite normal forms over the integers, and that a lattice has one of them alone.
-/
set_option linter.unusedVariables false
set_option linter.unusedSimpArgs false
namespace Go.Proofs.YtmfkpmepgbjmkaaGreatDoor.Hnf
abbrev Row := Nat → Int

def InL : List Row → Row → Prop
  | [], x => ∀ j, x j = 0
  | a :: A, x => ∃ k : Int, InL A (fun j => x j - k * a j)

/-- Each row's pivot, from column 'lo' on. -/
def Form (lo : Nat) : List Row → Prop
  | [] => True
  | a :: A => ∃ p, lo ≤ p ∧ (∀ j, j < p → a j = 0) ∧ 0 < a p ∧ Form (p + 1) A ∧ ∀ b ∈ A, ∀ q, (∀ j, j < q → b j = 0) → b q ≠ 0 → 0 ≤ a q ∧ a q < b q

theorem InL.congr {A : List Row} {x y : Row} (h : InL A x) (e : ∀ j, x j = y j) : InL A y := by
  have : x = y := funext e
  exact this ▸ h

theorem InL.zero (A : List Row) : InL A (fun _ => 0) := by
  induction A with
  | nil => intro j; rfl
  | cons a A ih => exact ⟨0, ih.congr (fun j => by simp)⟩

theorem InL.add {A : List Row} : ∀ {x y : Row}, InL A x → InL A y → InL A (fun j => x j + y j) := by
  induction A with
  | nil => intro x y hx hy j; simp [hx j, hy j]
  | cons a A ih =>
    rintro x y ⟨k, hx⟩ ⟨l, hy⟩
    exact ⟨k + l, (ih hx hy).congr (fun j => by grind)⟩

theorem InL.smul {A : List Row} (t : Int) : ∀ {x : Row}, InL A x → InL A (fun j => t * x j) := by
  induction A with
  | nil => intro x hx j; simp [hx j]
  | cons a A ih =>
    rintro x ⟨k, hx⟩
    exact ⟨t * k, (ih hx).congr (fun j => by grind)⟩

theorem InL.sub {A : List Row} {x y : Row} (hx : InL A x) (hy : InL A y) : InL A (fun j => x j - y j) :=
  (hx.add (hy.smul (-1))).congr (fun j => by grind)

theorem InL.tail {a : Row} {A : List Row} {x : Row} (h : InL A x) : InL (a :: A) x := ⟨0, h.congr (fun j => by simp)⟩
theorem InL.head (a : Row) (A : List Row) : InL (a :: A) a := ⟨1, (InL.zero A).congr (fun j => by grind)⟩
theorem InL.mem {A : List Row} {a : Row} (h : a ∈ A) : InL A a := by
  induction A with
  | nil => cases h
  | cons b A ih =>
    rcases List.mem_cons.1 h with rfl | h
    · exact .head _ _
    · exact (ih h).tail

theorem InL.of_all {A B : List Row} (h : ∀ a ∈ A, InL B a) : ∀ {x : Row}, InL A x → InL B x := by
  induction A with
  | nil => intro x hx; exact (InL.zero B).congr (fun j => (hx j).symm)
  | cons a A ih =>
    rintro x ⟨k, hx⟩
    have h1 := ih (fun b hb => h b (List.mem_cons_of_mem _ hb)) hx
    exact (h1.add ((h a (List.mem_cons_self ..)).smul k)).congr (fun j => by grind)

theorem Form.vanish {A : List Row} : ∀ {lo : Nat}, Form lo A → ∀ {x : Row}, InL A x → ∀ j, j < lo → x j = 0 := by
  induction A with
  | nil => intro lo _ x hx j _; exact hx j
  | cons a A ih =>
    rintro lo ⟨p, hlo, hz, hp, hA, _⟩ x ⟨k, hx⟩ j hj
    have := ih hA hx j (by omega)
    rw [hz j (by omega)] at this
    simpa using this

/-- A row of the lattice whose elements in the pivots' columns are less than these is zero. -/
theorem Form.small {A : List Row} : ∀ {lo : Nat}, Form lo A → ∀ {x : Row}, InL A x → (∀ b ∈ A, ∀ q, (∀ j, j < q → b j = 0) → b q ≠ 0 → -b q < x q ∧ x q < b q) → ∀ j, x j = 0 := by
  induction A with
  | nil => intro lo _ x hx _; exact hx
  | cons a A ih =>
    rintro lo ⟨p, hlo, hz, hp, hA, _⟩ x ⟨k, hx⟩ hs
    have h1 := hs a (List.mem_cons_self ..) p hz (by omega)
    have h2 := hA.vanish hx p (by omega)
    have h3 : x p = k * a p := by omega
    have hk : k = 0 := by
      rcases Int.lt_trichotomy k 0 with h | h | h
      · have : k * a p ≤ -1 * a p := Int.mul_le_mul_of_nonneg_right (by omega) (by omega)
        omega
      · exact h
      · have : 1 * a p ≤ k * a p := Int.mul_le_mul_of_nonneg_right (by omega) (by omega)
        omega
    subst hk
    have hx' : InL A x := hx.congr (fun j => by simp)
    exact ih hA hx' (fun b hb => hs b (List.mem_cons_of_mem _ hb))

theorem Form.below {A : List Row} {a : Row} {p : Nat} (hA : Form (p + 1) A) (hp : a p ≠ 0) {x : Row} (h : InL (a :: A) x) (hx : x p = 0) : InL A x := by
  obtain ⟨k, h⟩ := h
  have h1 := hA.vanish h p (by omega)
  rw [hx] at h1
  have hk : k = 0 := by
    have : k * a p = 0 := by omega
    rcases Int.mul_eq_zero.1 this with h | h
    · exact h
    · exact absurd h hp
  subst hk
  exact h.congr (fun j => by simp)

theorem Form.unique {A : List Row} : ∀ {lo lo' : Nat} {B : List Row}, Form lo A → Form lo' B → (∀ x, InL A x ↔ InL B x) → A = B := by
  induction A with
  | nil =>
    intro lo lo' B _ hB h
    cases B with
    | nil => rfl
    | cons b B =>
      obtain ⟨p, _, _, hp, _⟩ := hB
      have := (h b).2 (.head b B) p
      omega
  | cons a A ih =>
    intro lo lo' B hA hB h
    cases B with
    | nil =>
      obtain ⟨p, _, _, hp, _⟩ := hA
      have := (h a).1 (.head a A) p
      omega
    | cons b B =>
      obtain ⟨p, hlo, hz, hp, hA', hr⟩ := hA
      obtain ⟨q, hlo', hz', hq, hB', hr'⟩ := hB
      have hFA : Form p (a :: A) := ⟨p, Nat.le_refl _, hz, hp, hA', hr⟩
      have hFB : Form q (b :: B) := ⟨q, Nat.le_refl _, hz', hq, hB', hr'⟩
      have ha : InL (b :: B) a := (h a).1 (.head a A)
      have hb : InL (a :: A) b := (h b).2 (.head b B)
      have hpq : p = q := by
        rcases Nat.lt_trichotomy p q with h1 | h1 | h1
        · have := hFB.vanish ha p h1; omega
        · exact h1
        · have := hFA.vanish hb q h1; omega
      subst hpq
      obtain ⟨k, ha'⟩ := ha
      obtain ⟨l, hb'⟩ := hb
      have e1 : a p = k * b p := by have := hB'.vanish ha' p (by omega); omega
      have e2 : b p = l * a p := by have := hA'.vanish hb' p (by omega); omega
      have e : a p = b p := by
        have hk : 0 < k := by
          apply Int.pos_of_mul_pos_left (b := b p) ?_ hq
          · omega
        have hl : 0 < l := by
          apply Int.pos_of_mul_pos_left (b := a p) ?_ hp
          · omega
        have h1 : 1 * b p ≤ k * b p := Int.mul_le_mul_of_nonneg_right (by omega) (by omega)
        have h2 : 1 * a p ≤ l * a p := Int.mul_le_mul_of_nonneg_right (by omega) (by omega)
        omega
      have hAB : ∀ x, InL A x ↔ InL B x := by
        intro x
        constructor
        · intro hx
          exact hB'.below (by omega) ((h x).1 hx.tail) (hA'.vanish hx p (by omega))
        · intro hx
          exact hA'.below (by omega) ((h x).2 hx.tail) (hB'.vanish hx p (by omega))
      have eAB : A = B := ih hA' hB' hAB
      subst eAB
      have hd : InL (a :: A) (fun j => a j - b j) := (InL.head a A).sub ((h b).2 (.head b A))
      have hd' : InL A (fun j => a j - b j) := hA'.below (by omega) hd (by omega)
      have h0 := hA'.small hd' (fun c hc q hq0 hq1 => by
        have h1 := hr c hc q hq0 hq1
        have h2 := hr' c hc q hq0 hq1
        constructor <;> omega)
      have : a = b := funext fun j => by have := h0 j; omega
      rw [this]


/-- Two lists of rows have the same lattice. -/
def Same (A B : List Row) : Prop := ∀ x, InL A x ↔ InL B x
theorem Same.refl (A : List Row) : Same A A := fun _ => Iff.rfl
theorem Same.symm {A B : List Row} (h : Same A B) : Same B A := fun x => (h x).symm
theorem Same.trans {A B C : List Row} (h : Same A B) (h' : Same B C) : Same A C := fun x => (h x).trans (h' x)
theorem Same.of {A B : List Row} (h : ∀ a ∈ A, InL B a) (h' : ∀ b ∈ B, InL A b) : Same A B :=
  fun _ => ⟨InL.of_all h, InL.of_all h'⟩

theorem Same.perm {A B : List Row} (h : A.Perm B) : Same A B :=
  .of (fun _ ha => .mem (h.mem_iff.1 ha)) (fun _ hb => .mem (h.mem_iff.2 hb))

/-- Multiples of one row are taken from the others. -/
theorem Same.clear (a : Row) (R : List Row) (q : Row → Int) : Same (a :: R) (a :: R.map fun r => fun j => r j - q r * a j) := by
  refine .of (fun b hb => ?_) (fun b hb => ?_)
  · rcases List.mem_cons.1 hb with rfl | hb
    · exact .head _ _
    · have h1 : InL (a :: R.map fun r => fun j => r j - q r * a j) (fun j => b j - q b * a j) := .mem (List.mem_cons_of_mem _ (List.mem_map.2 ⟨b, hb, rfl⟩))
      exact (h1.add ((InL.head a _).smul (q b))).congr (fun j => by grind)
  · rcases List.mem_cons.1 hb with rfl | hb
    · exact .head _ _
    · obtain ⟨r, hr, rfl⟩ := List.mem_map.1 hb
      exact (InL.sub (.mem (List.mem_cons_of_mem _ hr)) ((InL.head a R).smul (q r)))

theorem Same.neg (a : Row) (R : List Row) : Same (a :: R) ((fun j => - a j) :: R) := by
  refine .of (fun b hb => ?_) (fun b hb => ?_)
  · rcases List.mem_cons.1 hb with rfl | hb
    · exact ((InL.head (fun j => - b j) R).smul (-1)).congr (fun j => by grind)
    · exact .mem (List.mem_cons_of_mem _ hb)
  · rcases List.mem_cons.1 hb with rfl | hb
    · exact ((InL.head a R).smul (-1)).congr (fun j => by grind)
    · exact .mem (List.mem_cons_of_mem _ hb)

theorem Same.append_left {A B : List Row} (C : List Row) (h : Same A B) : Same (C ++ A) (C ++ B) := by
  refine .of (fun b hb => ?_) (fun b hb => ?_)
  · rcases List.mem_append.1 hb with hb | hb
    · exact .mem (List.mem_append_left _ hb)
    · exact InL.of_all (fun a ha => .mem (List.mem_append_right _ ha)) ((h b).1 (.mem hb))
  · rcases List.mem_append.1 hb with hb | hb
    · exact .mem (List.mem_append_left _ hb)
    · exact InL.of_all (fun a ha => .mem (List.mem_append_right _ ha)) ((h b).2 (.mem hb))

theorem Same.append_comm (A B : List Row) : Same (A ++ B) (B ++ A) :=
  .perm List.perm_append_comm

theorem Same.append_right {A B : List Row} (C : List Row) (h : Same A B) : Same (A ++ C) (B ++ C) :=
  ((Same.append_comm A C).trans (h.append_left C)).trans (Same.append_comm C B)

theorem Same.cons {A B : List Row} (a : Row) (h : Same A B) : Same (a :: A) (a :: B) := h.append_left [a]

theorem Same.drop_zero {A : List Row} {a : Row} (h : ∀ j, a j = 0) : Same (a :: A) A := by
  refine .of (fun b hb => ?_) (fun b hb => .mem (List.mem_cons_of_mem _ hb))
  rcases List.mem_cons.1 hb with rfl | hb
  · exact (InL.zero A).congr (fun j => (h j).symm)
  · exact .mem hb

theorem Same.drop_zeros {A Z : List Row} (h : ∀ z ∈ Z, ∀ j, z j = 0) : Same (A ++ Z) A := by
  refine .of (fun b hb => ?_) (fun b hb => .mem (List.mem_append_left _ hb))
  rcases List.mem_append.1 hb with hb | hb
  · exact .mem hb
  · exact (InL.zero A).congr (fun j => (h b hb j).symm)

/-- A form whose pivots stand below column 'hi'. -/
def FormU (hi lo : Nat) : List Row → Prop
  | [] => True
  | a :: A => ∃ p, lo ≤ p ∧ p < hi ∧ (∀ j, j < p → a j = 0) ∧ 0 < a p ∧ FormU hi (p + 1) A ∧ ∀ b ∈ A, ∀ q, (∀ j, j < q → b j = 0) → b q ≠ 0 → 0 ≤ a q ∧ a q < b q

theorem FormU.form {hi : Nat} {A : List Row} : ∀ {lo}, FormU hi lo A → Form lo A := by
  induction A with
  | nil => intro _ _; trivial
  | cons a A ih =>
    rintro lo ⟨p, h1, _, h2, h3, h4, h5⟩
    exact ⟨p, h1, h2, h3, ih h4, h5⟩

theorem FormU.mono {hi hi' : Nat} (hh : hi ≤ hi') {A : List Row} : ∀ {lo}, FormU hi lo A → FormU hi' lo A := by
  induction A with
  | nil => intro _ _; trivial
  | cons a A ih =>
    rintro lo ⟨p, h1, h1', h2, h3, h4, h5⟩
    exact ⟨p, h1, by omega, h2, h3, ih h4, h5⟩

/-- The pivot of each row of a form stands below 'hi'. -/
theorem FormU.pivot {hi : Nat} {A : List Row} : ∀ {lo}, FormU hi lo A → ∀ b ∈ A, ∃ q, lo ≤ q ∧ q < hi ∧ (∀ j, j < q → b j = 0) ∧ 0 < b q := by
  induction A with
  | nil => intro _ _ b hb; cases hb
  | cons a A ih =>
    rintro lo ⟨p, h1, h1', h2, h3, h4, h5⟩ b hb
    rcases List.mem_cons.1 hb with rfl | hb
    · exact ⟨p, h1, h1', h2, h3⟩
    · obtain ⟨q, g1, g2, g3, g4⟩ := ih h4 b hb
      exact ⟨q, by omega, g2, g3, g4⟩

/-- Only the columns below 'hi' matter. -/
theorem FormU.congr {hi : Nat} {A : List Row} (f : Row → Row) (hf : ∀ a ∈ A, ∀ j, j < hi → f a j = a j) : ∀ {lo}, FormU hi lo A → FormU hi lo (A.map f) := by
  induction A with
  | nil => intro _ _; trivial
  | cons a A ih =>
    rintro lo ⟨p, h1, h1', h2, h3, h4, h5⟩
    have ha := hf a (List.mem_cons_self ..)
    refine ⟨p, h1, h1', fun j hj => by rw [ha j (by omega)]; exact h2 j hj, by rw [ha p h1']; exact h3, ih (fun b hb => hf b (List.mem_cons_of_mem _ hb)) h4, ?_⟩
    intro b hb q hq0 hq1
    obtain ⟨c, hc, rfl⟩ := List.mem_map.1 hb
    have hfc := hf c (List.mem_cons_of_mem _ hc)
    obtain ⟨q', g1, g2, g3, g4⟩ := FormU.pivot h4 c hc
    have e : q = q' := by
      rcases Nat.lt_trichotomy q q' with h | h | h
      · have := g3 q h; rw [hfc q (by omega)] at hq1; omega
      · exact h
      · have := hq0 q' h; rw [hfc q' g2] at this; omega
    subst e
    rw [ha q g2, hfc q g2]
    exact h5 c hc q g3 (by omega)

theorem FormU.snoc {c : Nat} {A : List Row} {a : Row} (hz : ∀ j, j < c → a j = 0) (hc : 0 < a c) : ∀ {lo}, lo ≤ c → FormU c lo A → (∀ b ∈ A, 0 ≤ b c ∧ b c < a c) → FormU (c + 1) lo (A ++ [a]) := by
  induction A with
  | nil =>
    intro lo hlo _ _
    exact ⟨c, hlo, by omega, hz, hc, trivial, fun b hb => by cases hb⟩
  | cons b A ih =>
    rintro lo hlo ⟨p, h1, h1', h2, h3, h4, h5⟩ hr
    refine ⟨p, h1, by omega, h2, h3, ih (by omega) h4 (fun b' hb' => hr b' (List.mem_cons_of_mem _ hb')), ?_⟩
    intro d hd q hq0 hq1
    rcases List.mem_append.1 hd with hd | hd
    · exact h5 d hd q hq0 hq1
    · obtain rfl : d = a := by simpa using hd
      have e : q = c := by
        rcases Nat.lt_trichotomy q c with h | h | h
        · exact absurd (hz q h) hq1
        · exact h
        · have := hq0 c h; omega
      subst e
      exact hr b (List.mem_cons_self ..)

/-- One column is done: the rows above are 'A', the new pivot's row is 'a'. -/
theorem FormU.step {c : Nat} {A : List Row} {a : Row} (hz : ∀ j, j < c → a j = 0) (hc : 0 < a c) (hA : FormU c 0 A) :
    FormU (c + 1) 0 ((A.map fun r => fun j => r j - (r c / a c) * a j) ++ [a]) := by
  refine FormU.snoc hz hc (Nat.zero_le _) (hA.congr (fun r => fun j => r j - (r c / a c) * a j) (fun r _ j hj => by show r j - (r c / a c) * a j = r j; rw [hz j hj]; simp)) ?_
  intro b hb
  obtain ⟨r, _, rfl⟩ := List.mem_map.1 hb
  have h1 := Int.emod_nonneg (r c) (show a c ≠ 0 by omega)
  have h2 := Int.emod_lt_of_pos (r c) hc
  have h3 : r c % a c = r c - (r c / a c) * a c := by rw [Int.emod_def, Int.mul_comm]
  show 0 ≤ r c - (r c / a c) * a c ∧ r c - (r c / a c) * a c < a c
  exact ⟨by omega, by omega⟩

theorem Same.step (A : List Row) (a : Row) (q : Row → Int) : Same (A ++ [a]) ((A.map fun r => fun j => r j - q r * a j) ++ [a]) :=
  ((Same.append_comm A [a]).trans (Same.clear a A q)).trans (Same.append_comm [a] _)
end Go.Proofs.YtmfkpmepgbjmkaaGreatDoor.Hnf
