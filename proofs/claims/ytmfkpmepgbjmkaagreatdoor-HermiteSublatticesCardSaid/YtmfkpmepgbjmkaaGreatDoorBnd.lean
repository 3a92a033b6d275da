/-
  PLAIN MATHEMATICS: the form of at most four columns with small elements has elements within the limit.
-/
import Derived.Test.YtmfkpmepgbjmkaaGreatDoorHnf
set_option linter.unusedVariables false
set_option linter.unusedSimpArgs false
namespace Go.Proofs.YtmfkpmepgbjmkaaGreatDoor.Hnf

/-- The determinants of rows a, b, .. in columns p, q, .., the last row with the column j. -/
def D2 (a b : Row) (p q : Nat) : Int := a p * b q - a q * b p
def T2 (a x : Row) (p : Nat) : Row := fun j => a p * x j - x p * a j
def T3 (a b x : Row) (p q : Nat) : Row := fun j => D2 a b p q * x j - D2 a x p q * b j + D2 b x p q * a j
def T4 (a b c x : Row) (p q r : Nat) : Row := fun j => T3 a b c p q r * x j - T3 a b x p q r * c j + T3 a c x p q r * b j - T3 b c x p q r * a j

theorem T2_p (a x : Row) (p : Nat) : T2 a x p p = 0 := by unfold T2; grind
theorem T3_p (a b x : Row) (p q : Nat) : T3 a b x p q p = 0 := by unfold T3 D2; grind
theorem T3_q (a b x : Row) (p q : Nat) : T3 a b x p q q = 0 := by unfold T3 D2; grind
theorem T4_p (a b c x : Row) (p q r : Nat) : T4 a b c x p q r p = 0 := by unfold T4 T3 D2; grind
theorem T4_q (a b c x : Row) (p q r : Nat) : T4 a b c x p q r q = 0 := by unfold T4 T3 D2; grind
theorem T4_r (a b c x : Row) (p q r : Nat) : T4 a b c x p q r r = 0 := by unfold T4 T3 D2; grind

theorem abs_mul {a b : Int} {A B : Nat} (ha : a.natAbs ≤ A) (hb : b.natAbs ≤ B) : (a * b).natAbs ≤ A * B := by
  rw [Int.natAbs_mul]; exact Nat.mul_le_mul ha hb
theorem D2_abs {a b : Row} {p q : Nat} (ha : ∀ j, (a j).natAbs ≤ 20) (hb : ∀ j, (b j).natAbs ≤ 20) : (D2 a b p q).natAbs ≤ 800 := by
  have h1 := abs_mul (ha p) (hb q)
  have h2 := abs_mul (ha q) (hb p)
  unfold D2
  generalize a p * b q = x at *
  generalize a q * b p = y at *
  omega
theorem T2_abs {a x : Row} {p : Nat} (ha : ∀ j, (a j).natAbs ≤ 20) (hx : ∀ j, (x j).natAbs ≤ 20) (j : Nat) : (T2 a x p j).natAbs ≤ 800 := by
  have h1 := abs_mul (ha p) (hx j)
  have h2 := abs_mul (hx p) (ha j)
  unfold T2
  generalize a p * x j = u at *
  generalize x p * a j = v at *
  omega
theorem T3_abs {a b x : Row} {p q : Nat} (ha : ∀ j, (a j).natAbs ≤ 20) (hb : ∀ j, (b j).natAbs ≤ 20) (hx : ∀ j, (x j).natAbs ≤ 20) (j : Nat) : (T3 a b x p q j).natAbs ≤ 48000 := by
  have h1 := abs_mul (D2_abs (p := p) (q := q) ha hb) (hx j)
  have h2 := abs_mul (D2_abs (p := p) (q := q) ha hx) (hb j)
  have h3 := abs_mul (D2_abs (p := p) (q := q) hb hx) (ha j)
  unfold T3
  generalize D2 a b p q * x j = u at *
  generalize D2 a x p q * b j = v at *
  generalize D2 b x p q * a j = z at *
  omega
theorem T4_abs {a b c x : Row} {p q r : Nat} (ha : ∀ j, (a j).natAbs ≤ 20) (hb : ∀ j, (b j).natAbs ≤ 20) (hc : ∀ j, (c j).natAbs ≤ 20) (hx : ∀ j, (x j).natAbs ≤ 20) (j : Nat) : (T4 a b c x p q r j).natAbs ≤ 3840000 := by
  have h1 := abs_mul (T3_abs (p := p) (q := q) ha hb hc r) (hx j)
  have h2 := abs_mul (T3_abs (p := p) (q := q) ha hb hx r) (hc j)
  have h3 := abs_mul (T3_abs (p := p) (q := q) ha hc hx r) (hb j)
  have h4 := abs_mul (T3_abs (p := p) (q := q) hb hc hx r) (ha j)
  unfold T4
  generalize T3 a b c p q r * x j = u at *
  generalize T3 a b x p q r * c j = v at *
  generalize T3 a c x p q r * b j = z at *
  generalize T3 b c x p q r * a j = t at *
  omega

/-- A linear map that is zero at all rows is zero on the lattice. -/
theorem lin_zero {A : List Row} (T : Row → Int) (hT : ∀ x y k, T (fun j => x j - k * y j) = T x - k * T y) (h0 : ∀ x : Row, (∀ j, x j = 0) → T x = 0) (h : ∀ a ∈ A, T a = 0) : ∀ {x : Row}, InL A x → T x = 0 := by
  induction A with
  | nil => intro x hx; exact h0 x hx
  | cons a A ih =>
    rintro x ⟨k, hx⟩
    have h1 := ih (fun b hb => h b (List.mem_cons_of_mem _ hb)) hx
    rw [hT, h a (List.mem_cons_self ..)] at h1
    omega
theorem lin_ex {A : List Row} (T : Row → Int) (hT : ∀ x y k, T (fun j => x j - k * y j) = T x - k * T y) (h0 : ∀ x : Row, (∀ j, x j = 0) → T x = 0) {x : Row} (hx : InL A x) (hn : T x ≠ 0) : ∃ a ∈ A, T a ≠ 0 := by
  by_cases h : ∃ a ∈ A, T a ≠ 0
  · exact h
  · refine absurd (lin_zero T hT h0 (fun a ha => ?_) hx) hn
    by_cases h' : T a = 0
    · exact h'
    · exact absurd ⟨a, ha, h'⟩ h

/-- y * t ≤ A + (B + y) * C gives t. -/
theorem quot_le {y t A B C : Nat} (hy : 1 ≤ y) (h : y * t ≤ A + (B + y) * C) : t ≤ A + (B + 1) * C := by
  have h1 : A + (B + y) * C ≤ y * (A + (B + 1) * C) := by
    have h2 : A ≤ y * A := Nat.le_mul_of_pos_left _ hy
    have h3 : B + y ≤ y * (B + 1) := by
      rw [Nat.mul_add, Nat.mul_one]
      have : B ≤ y * B := Nat.le_mul_of_pos_left _ hy
      omega
    have h4 := Nat.mul_le_mul_right C h3
    rw [Nat.mul_add, ← Nat.mul_assoc]
    omega
  exact Nat.le_of_mul_le_mul_left (Nat.le_trans h h1) hy
theorem abs_ne {y d : Int} (hy : y ≠ 0) : d.natAbs ≤ (y * d).natAbs := by
  rw [Int.natAbs_mul]
  exact Nat.le_mul_of_pos_left _ (by omega)
/-- The next multiple, from its pivot's column. -/
theorem mult_le {u s k d : Int} {U S : Nat} (hd : 0 < d) (h : u = s + k * d) (hu : u.natAbs ≤ U) (hs : s.natAbs ≤ S * d.natAbs) : k.natAbs ≤ U + S := by
  have h1 : (k * d).natAbs ≤ U + S * d.natAbs := by omega
  rw [Int.natAbs_mul] at h1
  have h2 : U + S * d.natAbs ≤ (U + S) * d.natAbs := by
    rw [Nat.add_mul]
    have : U ≤ U * d.natAbs := Nat.le_mul_of_pos_right _ (by omega)
    omega
  exact Nat.le_of_mul_le_mul_right (Nat.le_trans h1 h2) (by omega)
theorem part_le {y f d : Int} (h0 : 0 ≤ f) (h1 : f < d) : (y * f).natAbs ≤ y.natAbs * d.natAbs := by
  rw [Int.natAbs_mul]
  exact Nat.mul_le_mul (Nat.le_refl _) (by omega)

theorem bound1 {u f : Row} {y : Int} {U : Nat} (hy : y ≠ 0) (h : ∀ j, u j = y * f j) (hu : ∀ j, (u j).natAbs ≤ U) (j : Nat) : (f j).natAbs ≤ U := by
  have := abs_ne (d := f j) hy
  rw [← h j] at this
  exact Nat.le_trans this (hu j)
theorem bound2 {u f g : Row} {y z : Int} {U V : Nat} {p : Nat} (hy : y ≠ 0) (h : ∀ j, u j = y * f j + z * g j) (hu : ∀ j, (u j).natAbs ≤ U) (hg : ∀ j, (g j).natAbs ≤ V)
    (hp : 0 < g p) (h0 : 0 ≤ f p ∧ f p < g p) (j : Nat) : (f j).natAbs ≤ U + (U + 1) * V := by
  have h1 : z.natAbs ≤ U + y.natAbs := mult_le hp (h p) (hu p) (part_le h0.1 h0.2)
  refine quot_le (y := y.natAbs) (by omega) ?_
  have h2 := h j
  have h3 : (y * f j).natAbs ≤ (u j).natAbs + (z * g j).natAbs := by omega
  have h4 := abs_mul h1 (hg j)
  have h5 := hu j
  rw [Int.natAbs_mul] at h3
  omega
theorem bound3 {u f g k : Row} {y z t : Int} {U V W : Nat} {p q : Nat} (hy : y ≠ 0) (h : ∀ j, u j = y * f j + z * g j + t * k j) (hu : ∀ j, (u j).natAbs ≤ U) (hg : ∀ j, (g j).natAbs ≤ V) (hk : ∀ j, (k j).natAbs ≤ W)
    (hp : 0 < g p) (h0 : 0 ≤ f p ∧ f p < g p) (hz : k p = 0) (hq : 0 < k q) (h1 : 0 ≤ f q ∧ f q < k q) (h2 : 0 ≤ g q ∧ g q < k q) (j : Nat) : (f j).natAbs ≤ U + (U + 1) * V + (2 * U + 2) * W := by
  have e1 : u p = y * f p + z * g p := by have := h p; rw [hz] at this; omega
  have b1 : z.natAbs ≤ U + y.natAbs := mult_le hp e1 (hu p) (part_le h0.1 h0.2)
  have b2 : t.natAbs ≤ U + (y.natAbs + z.natAbs) := by
    refine mult_le hq (h q) (hu q) ?_
    have c1 := part_le (y := y) h1.1 h1.2
    have c2 := part_le (y := z) h2.1 h2.2
    rw [Nat.add_mul]
    omega
  have b3 : t.natAbs ≤ 2 * U + 2 * y.natAbs := by omega
  have hj := h j
  have h3 : (y * f j).natAbs ≤ (u j).natAbs + (z * g j).natAbs + (t * k j).natAbs := by omega
  have h4 := abs_mul b1 (hg j)
  have h5 := abs_mul b3 (hk j)
  have h6 := hu j
  rw [Int.natAbs_mul] at h3
  have e : (U + (U + 1) * V + (2 * U + 2) * W) = U + (U + 1) * (V + 2 * W) := by
    rw [show 2 * U + 2 = (U + 1) * 2 by omega, Nat.mul_assoc, Nat.add_assoc, ← Nat.mul_add]
  rw [e]
  refine quot_le (y := y.natAbs) (by omega) ?_
  have e2 : (U + y.natAbs) * (V + 2 * W) = (U + y.natAbs) * V + (2 * U + 2 * y.natAbs) * W := by
    rw [Nat.mul_add, ← Nat.mul_assoc]
    congr 2
    omega
  omega

theorem T2_lin (a : Row) (p j : Nat) (x y : Row) (k : Int) : T2 a (fun j => x j - k * y j) p j = T2 a x p j - k * T2 a y p j := by unfold T2; grind
theorem T3_lin (a b : Row) (p q j : Nat) (x y : Row) (k : Int) : T3 a b (fun j => x j - k * y j) p q j = T3 a b x p q j - k * T3 a b y p q j := by unfold T3 D2; grind
theorem T4_lin (a b c : Row) (p q r j : Nat) (x y : Row) (k : Int) : T4 a b c (fun j => x j - k * y j) p q r j = T4 a b c x p q r j - k * T4 a b c y p q r j := by unfold T4 T3 D2; grind
theorem T2_in {A : List Row} {a x : Row} (p : Nat) (ha : InL A a) (hx : InL A x) : InL A (T2 a x p) :=
  ((hx.smul (a p)).sub (ha.smul (x p))).congr (fun j => by unfold T2; grind)
theorem T3_in {A : List Row} {a b x : Row} (p q : Nat) (ha : InL A a) (hb : InL A b) (hx : InL A x) : InL A (T3 a b x p q) :=
  (((hx.smul (D2 a b p q)).sub (hb.smul (D2 a x p q))).add (ha.smul (D2 b x p q))).congr (fun j => by unfold T3; grind)
theorem T4_in {A : List Row} {a b c x : Row} (p q r : Nat) (ha : InL A a) (hb : InL A b) (hc : InL A c) (hx : InL A x) : InL A (T4 a b c x p q r) :=
  ((((hx.smul (T3 a b c p q r)).sub (hc.smul (T3 a b x p q r))).add (hb.smul (T3 a c x p q r))).sub (ha.smul (T3 b c x p q r))).congr (fun j => by unfold T4; grind)

/-- A row of a form's lattice that is zero at the first pivot. -/
theorem FormU.rest {hi p : Nat} {a : Row} {A : List Row} (hp : 0 < a p) (hA : FormU hi (p + 1) A) {x : Row} (h : InL (a :: A) x) (hx : x p = 0) : InL A x :=
  Form.below hA.form (by omega) h hx
theorem form_bound {A F : List Row} (hA : ∀ a ∈ A, ∀ j, (a j).natAbs ≤ 20) (hF : FormU 4 0 F) (hS : Same A F) (h4 : ∀ f ∈ F, ∀ j, 4 ≤ j → f j = 0) : ∀ f ∈ F, ∀ j, (f j).natAbs ≤ 1000000000 := by
  match F, hF, hS, h4 with
  | [], _, _, _ => intro f hf; cases hf
  | f1 :: F1, ⟨p, _, hp4, hz1, hp, hF1, hr1⟩, hS, h4 =>
  have hf1 : InL A f1 := (hS f1).2 (.head _ _)
  obtain ⟨a, haA, ha⟩ := lin_ex (fun x => x p) (fun _ _ _ => rfl) (fun x h => h p) hf1 (show f1 p ≠ 0 by omega)
  have ba := hA a haA
  have ia : InL (f1 :: F1) a := (hS a).1 (.mem haA)
  obtain ⟨y11, ia'⟩ := ia
  have e11 : a p = y11 * f1 p := by have := hF1.form.vanish ia' p (by omega); omega
  have hy11 : y11 ≠ 0 := by rintro rfl; rw [Int.zero_mul] at e11; exact ha e11
  match F1, hF1, hr1, hS, h4, ia' with
  | [], _, _, _, _, ia' =>
    intro f hf j
    obtain rfl : f = f1 := by simpa using hf
    have := bound1 (u := a) (f := f) hy11 (fun j => by have : a j - y11 * f j = 0 := ia' j; omega) ba j
    omega
  | f2 :: F2, ⟨q, hpq, hq4, hz2, hq, hF2, hr2⟩, hr1, hS, h4, ⟨y12, ia''⟩ =>
  have r12 := hr1 f2 (List.mem_cons_self ..) q hz2 (by omega)
  have z2p : f2 p = 0 := hz2 p (by omega)
  have hf2 : InL A f2 := (hS f2).2 (InL.head _ _).tail
  obtain ⟨b, hbA, hb⟩ := lin_ex (fun x => T2 a x p q) (fun x y k => T2_lin a p q x y k) (fun x h => by show a p * x q - x p * a q = 0; rw [h, h]; simp) hf2 (show T2 a f2 p q ≠ 0 by
    unfold T2
    rw [z2p, Int.zero_mul, Int.sub_zero]
    exact Int.mul_ne_zero ha (by omega))
  have bb := hA b hbA
  have iu2 : InL (f1 :: f2 :: F2) (T2 a b p) := (hS _).1 (T2_in p (.mem haA) (.mem hbA))
  have iu2 := FormU.rest (hi := 4) (A := f2 :: F2) hp ⟨q, hpq, hq4, hz2, hq, hF2, hr2⟩ iu2 (T2_p a b p)
  obtain ⟨y22, iu2'⟩ := iu2
  have e22 : T2 a b p q = y22 * f2 q := by have := hF2.form.vanish iu2' q (by omega); omega
  have hy22 : y22 ≠ 0 := by rintro rfl; rw [Int.zero_mul] at e22; exact hb e22
  have bu2 : ∀ j, (T2 a b p j).natAbs ≤ 800 := fun j => T2_abs ba bb j
  match F2, hF2, hr1, hr2, hS, h4, ia'', iu2' with
  | [], _, hr1, _, _, _, ia'', iu2' =>
    have B2 : ∀ j, (f2 j).natAbs ≤ 800 := fun j => bound1 (u := T2 a b p) hy22 (fun j => by have : T2 a b p j - y22 * f2 j = 0 := iu2' j; omega) bu2 j
    have B1 : ∀ j, (f1 j).natAbs ≤ 20 + (20 + 1) * 800 := fun j => bound2 (u := a) (z := y12) hy11 (fun j => by have : a j - y11 * f1 j - y12 * f2 j = 0 := ia'' j; omega) ba B2 hq r12 j
    intro f hf j
    rcases List.mem_cons.1 hf with rfl | hf
    · have := B1 j; omega
    · obtain rfl : f = f2 := by simpa using hf
      have := B2 j; omega
  | f3 :: F3, ⟨r, hqr, hr4, hz3, hr, hF3, hr3⟩, hr1, hr2, hS, h4, ⟨y13, ia3⟩, ⟨y23, iu3⟩ =>
  have r13 := hr1 f3 (by simp) r hz3 (by omega)
  have r23 := hr2 f3 (by simp) r hz3 (by omega)
  have z3p : f3 p = 0 := hz3 p (by omega)
  have z3q : f3 q = 0 := hz3 q (by omega)
  have hf3 : InL A f3 := (hS f3).2 (InL.head _ _).tail.tail
  have hD : D2 a b p q ≠ 0 := by
    have : D2 a b p q = T2 a b p q := by unfold D2 T2; grind
    rw [this]; exact hb
  obtain ⟨c, hcA, hc⟩ := lin_ex (fun x => T3 a b x p q r) (fun x y k => T3_lin a b p q r x y k) (fun x h => by show T3 a b x p q r = 0; unfold T3 D2; simp only [h]; simp) hf3 (show T3 a b f3 p q r ≠ 0 by
    have : T3 a b f3 p q r = D2 a b p q * f3 r := by unfold T3 D2; rw [z3p, z3q]; simp
    rw [this]
    exact Int.mul_ne_zero hD (by omega))
  have bc := hA c hcA
  have iu3' : InL (f1 :: f2 :: f3 :: F3) (T3 a b c p q) := (hS _).1 (T3_in p q (.mem haA) (.mem hbA) (.mem hcA))
  have iu3' := FormU.rest (hi := 4) (A := f2 :: f3 :: F3) hp ⟨q, hpq, hq4, hz2, hq, ⟨r, hqr, hr4, hz3, hr, hF3, hr3⟩, hr2⟩ iu3' (T3_p a b c p q)
  have iu3' := FormU.rest (hi := 4) (A := f3 :: F3) hq ⟨r, hqr, hr4, hz3, hr, hF3, hr3⟩ iu3' (T3_q a b c p q)
  obtain ⟨y33, iu33⟩ := iu3'
  have e33 : T3 a b c p q r = y33 * f3 r := by have := hF3.form.vanish iu33 r (by omega); omega
  have hy33 : y33 ≠ 0 := by rintro rfl; rw [Int.zero_mul] at e33; exact hc e33
  have bu3 : ∀ j, (T3 a b c p q j).natAbs ≤ 48000 := fun j => T3_abs ba bb bc j
  match F3, hF3, hr1, hr2, hr3, hS, h4, ia3, iu3, iu33 with
  | [], _, hr1, hr2, _, _, _, ia3, iu3, iu33 =>
    have B3 : ∀ j, (f3 j).natAbs ≤ 48000 := fun j => bound1 (u := T3 a b c p q) hy33 (fun j => by have : T3 a b c p q j - y33 * f3 j = 0 := iu33 j; omega) bu3 j
    have B2 : ∀ j, (f2 j).natAbs ≤ 800 + (800 + 1) * 48000 := fun j => bound2 (u := T2 a b p) (z := y23) hy22 (fun j => by have : T2 a b p j - y22 * f2 j - y23 * f3 j = 0 := iu3 j; omega) bu2 B3 hr r23 j
    have B1 : ∀ j, (f1 j).natAbs ≤ 20 + (20 + 1) * (800 + (800 + 1) * 48000) + (2 * 20 + 2) * 48000 := fun j => bound3 (u := a) (z := y12) (t := y13) hy11 (fun j => by have : a j - y11 * f1 j - y12 * f2 j - y13 * f3 j = 0 := ia3 j; omega) ba B2 B3 hq r12 z3q hr r13 r23 j
    intro f hf j
    rcases List.mem_cons.1 hf with rfl | hf
    · have := B1 j; omega
    rcases List.mem_cons.1 hf with rfl | hf
    · have := B2 j; omega
    · obtain rfl : f = f3 := by simpa using hf
      have := B3 j; omega
  | f4 :: F4, ⟨s, hrs, hs4, hz4, hs, hF4, hr4'⟩, hr1, hr2, hr3, hS, h4, ia3, iu3, iu33 =>
  obtain rfl : p = 0 := by omega
  obtain rfl : q = 1 := by omega
  obtain rfl : r = 2 := by omega
  obtain rfl : s = 3 := by omega
  have hF4e : F4 = [] := by
    match F4, hF4 with
    | [], _ => rfl
    | g :: _, ⟨t, ht, ht', _⟩ => omega
  subst hF4e
  have r14 := hr1 f4 (by simp) 3 hz4 (by omega)
  have r24 := hr2 f4 (by simp) 3 hz4 (by omega)
  have r34 := hr3 f4 (by simp) 3 hz4 (by omega)
  have z0 := hz4 0 (by omega)
  have z1 := hz4 1 (by omega)
  have z2 := hz4 2 (by omega)
  have hf4 : InL A f4 := (hS f4).2 (InL.head _ _).tail.tail.tail
  obtain ⟨d, hdA, hd⟩ := lin_ex (fun x => T4 a b c x 0 1 2 3) (fun x y k => T4_lin a b c 0 1 2 3 x y k) (fun x h => by show T4 a b c x 0 1 2 3 = 0; unfold T4 T3 D2; simp only [h]; simp) hf4 (show T4 a b c f4 0 1 2 3 ≠ 0 by
    have : T4 a b c f4 0 1 2 3 = T3 a b c 0 1 2 * f4 3 := by unfold T4 T3 D2; rw [z0, z1, z2]; simp
    rw [this]
    exact Int.mul_ne_zero hc (by omega))
  have bd := hA d hdA
  have iu4 : InL (f1 :: f2 :: f3 :: [f4]) (T4 a b c d 0 1 2) := (hS _).1 (T4_in 0 1 2 (.mem haA) (.mem hbA) (.mem hcA) (.mem hdA))
  have iu4 := FormU.rest (hi := 4) (A := f2 :: f3 :: [f4]) hp ⟨1, hpq, hq4, hz2, hq, ⟨2, hqr, hr4, hz3, hr, ⟨3, hrs, hs4, hz4, hs, trivial, hr4'⟩, hr3⟩, hr2⟩ iu4 (T4_p a b c d 0 1 2)
  have iu4 := FormU.rest (hi := 4) (A := f3 :: [f4]) hq ⟨2, hqr, hr4, hz3, hr, ⟨3, hrs, hs4, hz4, hs, trivial, hr4'⟩, hr3⟩ iu4 (T4_q a b c d 0 1 2)
  have iu4 := FormU.rest (hi := 4) (A := [f4]) hr ⟨3, hrs, hs4, hz4, hs, trivial, hr4'⟩ iu4 (T4_r a b c d 0 1 2)
  obtain ⟨y44, iu44⟩ := iu4
  have e44 : T4 a b c d 0 1 2 3 = y44 * f4 3 := by have : T4 a b c d 0 1 2 3 - y44 * f4 3 = 0 := iu44 3; omega
  have hy44 : y44 ≠ 0 := by rintro rfl; rw [Int.zero_mul] at e44; exact hd e44
  have bu4 : ∀ j, (T4 a b c d 0 1 2 j).natAbs ≤ 3840000 := fun j => T4_abs ba bb bc bd j
  have d1 : (f1 0).natAbs ≤ 20 := by have := abs_ne (d := f1 0) hy11; rw [← e11] at this; exact Nat.le_trans this (ba 0)
  have d2 : (f2 1).natAbs ≤ 800 := by have := abs_ne (d := f2 1) hy22; rw [← e22] at this; exact Nat.le_trans this (bu2 1)
  have d3 : (f3 2).natAbs ≤ 48000 := by have := abs_ne (d := f3 2) hy33; rw [← e33] at this; exact Nat.le_trans this (bu3 2)
  have d4 : (f4 3).natAbs ≤ 3840000 := by have := abs_ne (d := f4 3) hy44; rw [← e44] at this; exact Nat.le_trans this (bu4 3)
  intro f hf j
  by_cases hj : 4 ≤ j
  · rw [h4 f hf j hj]; decide
  have z2' := hz2 0 (by omega)
  have z31 := hz3 0 (by omega)
  have z32 := hz3 1 (by omega)
  have hj' : j = 0 ∨ j = 1 ∨ j = 2 ∨ j = 3 := by omega
  simp only [List.mem_cons, List.not_mem_nil, or_false] at hf
  rcases hf with rfl | rfl | rfl | rfl <;> rcases hj' with rfl | rfl | rfl | rfl <;> omega
end Go.Proofs.YtmfkpmepgbjmkaaGreatDoor.Hnf
