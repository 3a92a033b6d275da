/-
  PLAIN MATHEMATICS: the rank of a lattice, and the product of the pivots of the lattice of multiplied rows.
-/
import Derived.Test.YtmfkpmepgbjmkaaGreatDoorHnf
set_option linter.unusedVariables false
set_option linter.unusedSimpArgs false
namespace Go.Proofs.YtmfkpmepgbjmkaaGreatDoor.Hnf

/-- Rows with pivots (of any sign), from the column lo on. -/
def WE (lo : Nat) : List Row → Prop
  | [] => True
  | a :: A => ∃ p, lo ≤ p ∧ (∀ j, j < p → a j = 0) ∧ a p ≠ 0 ∧ WE (p + 1) A
theorem Form.we {A : List Row} : ∀ {lo : Nat}, Form lo A → WE lo A := by
  induction A with
  | nil => intro _ _; trivial
  | cons a A ih =>
    rintro lo ⟨p, h1, h2, h3, h4, _⟩
    exact ⟨p, h1, h2, by omega, ih h4⟩
theorem WE.smul {A : List Row} {t : Int} (ht : t ≠ 0) : ∀ {lo : Nat}, WE lo A → WE lo (A.map fun a => fun j => t * a j) := by
  induction A with
  | nil => intro _ _; trivial
  | cons a A ih =>
    rintro lo ⟨p, h1, h2, h3, h4⟩
    exact ⟨p, h1, fun j hj => by show t * a j = 0; rw [h2 j hj, Int.mul_zero], Int.mul_ne_zero ht h3, ih h4⟩
theorem InL.lin {A : List Row} {x y : Row} (k l : Int) (hx : InL A x) (hy : InL A y) : InL A (fun j => k * x j - l * y j) := (hx.smul k).sub (hy.smul l)

/-- One row less in the span. -/
theorem we_elim (b : Row) (B : List Row) : ∀ (F : List Row) (lo : Nat), WE lo F → (∀ f ∈ F, InL (b :: B) f) →
    (∀ f ∈ F, InL B f) ∨ ∃ (F' : List Row) (e : Row) (k : Int), WE lo F' ∧ F'.length + 1 = F.length ∧ (∀ f ∈ F', InL B f) ∧ k ≠ 0 ∧ InL B (fun j => e j - k * b j) ∧ ∀ j, j < lo → e j = 0 := by
  intro F
  induction F with
  | nil => intro lo _ _; exact .inl (fun f hf => by cases hf)
  | cons a A ih =>
    rintro lo ⟨p, hlo, hz, hp, hA⟩ hF
    obtain ⟨l, hl⟩ := hF a (List.mem_cons_self ..)
    rcases ih (p + 1) hA (fun f hf => hF f (List.mem_cons_of_mem _ hf)) with h | ⟨F', e, k, h1, h2, h3, h4, h5, h6⟩
    · by_cases hl0 : l = 0
      · subst hl0
        refine .inl (fun f hf => ?_)
        rcases List.mem_cons.1 hf with rfl | hf
        · exact hl.congr (fun j => by simp)
        · exact h f hf
      · refine .inr ⟨A, a, l, ?_, rfl, h, hl0, hl, fun j hj => hz j (by omega)⟩
        have key : ∀ {A : List Row} {lo lo' : Nat}, lo' ≤ lo → WE lo A → WE lo' A := by
          intro A lo lo' hh h
          cases A with
          | nil => trivial
          | cons a A => obtain ⟨p, g1, g⟩ := h; exact ⟨p, by omega, g⟩
        exact key (by omega) hA
    · refine .inr ⟨(fun j => k * a j - l * e j) :: F', e, k, ⟨p, hlo, fun j hj => ?_, ?_, h1⟩, by simp [h2], fun f hf => ?_, h4, h5, fun j hj => h6 j (by omega)⟩
      · show k * a j - l * e j = 0
        rw [hz j hj, h6 j (by omega)]; simp
      · show k * a p - l * e p ≠ 0
        rw [h6 p (by omega), Int.mul_zero, Int.sub_zero]
        exact Int.mul_ne_zero h4 hp
      · rcases List.mem_cons.1 hf with rfl | hf
        · exact (InL.lin k l hl h5).congr (fun j => by grind)
        · exact h3 f hf
/-- A span of s rows has at most s pivots. -/
theorem we_rank : ∀ (B F : List Row) (lo : Nat), WE lo F → (∀ f ∈ F, InL B f) → F.length ≤ B.length := by
  intro B
  induction B with
  | nil =>
    intro F lo hF h
    cases F with
    | nil => exact Nat.le_refl _
    | cons a A => obtain ⟨p, _, _, hp, _⟩ := hF; exact absurd (h a (List.mem_cons_self ..) p) hp
  | cons b B ih =>
    intro F lo hF h
    rcases we_elim b B F lo hF h with h' | ⟨F', e, k, h1, h2, h3, _⟩
    · have := ih F lo hF h'
      rw [List.length_cons]; omega
    · have := ih F' lo h1 h3
      rw [List.length_cons]; omega

/-- Rows with positive pivots, and their product. -/
def EP (lo : Nat) : List Row → Int → Prop
  | [], P => P = 1
  | a :: A, P => ∃ p Q, lo ≤ p ∧ (∀ j, j < p → a j = 0) ∧ 0 < a p ∧ EP (p + 1) A Q ∧ P = a p * Q
theorem EP.we {A : List Row} : ∀ {lo : Nat} {P : Int}, EP lo A P → WE lo A := by
  induction A with
  | nil => intro _ _ _; trivial
  | cons a A ih =>
    rintro lo P ⟨p, Q, h1, h2, h3, h4, _⟩
    exact ⟨p, h1, h2, by omega, ih h4⟩
theorem EP.pos {A : List Row} : ∀ {lo : Nat} {P : Int}, EP lo A P → 0 < P := by
  induction A with
  | nil => intro lo P h; have h : P = 1 := h; omega
  | cons a A ih =>
    rintro lo P ⟨p, Q, h1, h2, h3, h4, rfl⟩
    exact Int.mul_pos h3 (ih h4)
theorem Form.ep {A : List Row} : ∀ {lo : Nat}, Form lo A → ∃ P, EP lo A P := by
  induction A with
  | nil => intro _ _; exact ⟨1, rfl⟩
  | cons a A ih =>
    rintro lo ⟨p, h1, h2, h3, h4, _⟩
    obtain ⟨Q, hQ⟩ := ih h4
    exact ⟨a p * Q, p, Q, h1, h2, h3, hQ, rfl⟩
theorem WE.vanish {A : List Row} : ∀ {lo : Nat}, WE lo A → ∀ {x : Row}, InL A x → ∀ j, j < lo → x j = 0 := by
  induction A with
  | nil => intro lo _ x hx j _; exact hx j
  | cons a A ih =>
    rintro lo ⟨p, hlo, hz, hp, hA⟩ x ⟨k, hx⟩ j hj
    have := ih hA hx j (by omega)
    rw [hz j (by omega)] at this
    simpa using this
theorem WE.below {A : List Row} {a : Row} {p : Nat} (hA : WE (p + 1) A) (hp : a p ≠ 0) {x : Row} (h : InL (a :: A) x) (hx : x p = 0) : InL A x := by
  obtain ⟨k, h⟩ := h
  have h1 := hA.vanish h p (by omega)
  have h1 : x p - k * a p = 0 := h1
  rw [hx] at h1
  have hk : k = 0 := by
    have : k * a p = 0 := by omega
    rcases Int.mul_eq_zero.1 this with h | h
    · exact h
    · exact absurd h hp
  subst hk
  exact h.congr (fun j => by simp)
/-- The product of the pivots is the lattice's. -/
theorem EP.unique {A : List Row} : ∀ {lo lo' : Nat} {B : List Row} {P Q : Int}, EP lo A P → EP lo' B Q → Same A B → P = Q := by
  induction A with
  | nil =>
    intro lo lo' B P Q hA hB h
    cases B with
    | nil => have hA : P = 1 := hA; have hB : Q = 1 := hB; omega
    | cons b B =>
      obtain ⟨p, _, _, _, hp, _⟩ := hB
      have := (h b).2 (.head b B) p
      omega
  | cons a A ih =>
    intro lo lo' B P Q hA hB h
    cases B with
    | nil =>
      obtain ⟨p, _, _, _, hp, _⟩ := hA
      have := (h a).1 (.head a A) p
      omega
    | cons b B =>
      obtain ⟨p, P', hlo, hz, hp, hA', rfl⟩ := hA
      obtain ⟨q, Q', hlo', hz', hq, hB', rfl⟩ := hB
      have wA : WE p (a :: A) := ⟨p, Nat.le_refl _, hz, by omega, hA'.we⟩
      have wB : WE q (b :: B) := ⟨q, Nat.le_refl _, hz', by omega, hB'.we⟩
      have ha : InL (b :: B) a := (h a).1 (.head a A)
      have hb : InL (a :: A) b := (h b).2 (.head b B)
      have hpq : p = q := by
        rcases Nat.lt_trichotomy p q with h1 | h1 | h1
        · have := wB.vanish ha p h1; omega
        · exact h1
        · have := wA.vanish hb q h1; omega
      subst hpq
      obtain ⟨k, ha'⟩ := ha
      obtain ⟨l, hb'⟩ := hb
      have e1 : a p = k * b p := by have : a p - k * b p = 0 := hB'.we.vanish ha' p (by omega); omega
      have e2 : b p = l * a p := by have : b p - l * a p = 0 := hA'.we.vanish hb' p (by omega); omega
      have e : a p = b p := by
        have hk : 0 < k := by
          apply Int.pos_of_mul_pos_left (b := b p) ?_ hq
          · omega
        have hl : 0 < l := by
          apply Int.pos_of_mul_pos_left (b := a p) ?_ hp
          · omega
        have h1 : 1 * b p ≤ k * b p := Int.mul_le_mul_of_nonneg_right (by omega) (by omega)
        have h2 : 1 * a p ≤ l * a p := Int.mul_le_mul_of_nonneg_right (by omega) (by omega)
        omega
      have hAB : Same A B := by
        intro x
        constructor
        · intro hx
          exact hB'.we.below (by omega) ((h x).1 hx.tail) (hA'.we.vanish hx p (by omega))
        · intro hx
          exact hA'.we.below (by omega) ((h x).2 hx.tail) (hB'.we.vanish hx p (by omega))
      rw [ih hA' hB' hAB, e]

theorem bezout : ∀ (a b : Nat), ∃ u v : Int, (Nat.gcd a b : Int) = u * a + v * b := by
  intro a b
  induction a, b using Nat.gcd.induction with
  | H0 b => exact ⟨0, 1, by simp⟩
  | H1 a b _ ih =>
    obtain ⟨u, v, h⟩ := ih
    refine ⟨v - u * (b / a : Nat), u, ?_⟩
    rw [Nat.gcd_rec, h]
    have h2 := Nat.div_add_mod b a
    have h3 : (b : Int) = a * (b / a : Nat) + (b % a : Nat) := by
      have := congrArg (fun n : Nat => (n : Int)) h2
      simpa using this.symm
    generalize ((b / a : Nat) : Int) = d at *
    generalize ((b % a : Nat) : Int) = m at *
    rw [h3]
    grind
theorem bezout_int (a b : Int) : ∃ u v : Int, (Int.gcd a b : Int) = u * a + v * b := by
  obtain ⟨u, v, h⟩ := bezout a.natAbs b.natAbs
  have ha : ∃ s : Int, (a.natAbs : Int) = s * a := by
    rcases Int.natAbs_eq a with h | h
    · exact ⟨1, by omega⟩
    · exact ⟨-1, by omega⟩
  have hb : ∃ s : Int, (b.natAbs : Int) = s * b := by
    rcases Int.natAbs_eq b with h | h
    · exact ⟨1, by omega⟩
    · exact ⟨-1, by omega⟩
  obtain ⟨s, hs⟩ := ha
  obtain ⟨t, ht⟩ := hb
  refine ⟨u * s, v * t, ?_⟩
  show ((Nat.gcd a.natAbs b.natAbs : Nat) : Int) = _
  rw [h, hs, ht]
  grind

/-- Linear on a lattice. -/
def LinOn (A : List Row) (f : Row → Int) : Prop := ∀ x y k, InL A x → InL A y → f (fun j => x j - k * y j) = f x - k * f y
theorem LinOn.zero {A : List Row} {f : Row → Int} (h : LinOn A f) : f (fun _ => 0) = 0 := by
  have := h (fun _ => 0) (fun _ => 0) 1 (.zero A) (.zero A)
  have e : (fun j : Nat => (0 : Int) - 1 * 0) = fun _ => 0 := by funext j; simp
  rw [e] at this
  omega
/-- The rows of an echelon at which a linear function is divided by k. -/
theorem sub_lattice (f : Row → Int) (k : Int) (hk : 0 < k) : ∀ (F : List Row) (lo : Nat) (P : Int), EP lo F P → LinOn F f →
    ∃ (G : List Row) (Q g : Int), EP lo G Q ∧ G.length = F.length ∧ (∀ x, InL G x ↔ InL F x ∧ k ∣ f x) ∧ 0 < g ∧ g ∣ k ∧ (∀ x, InL F x → g ∣ f x) ∧ (∃ x, InL F x ∧ k ∣ f x - g) ∧ Q * g = P * k := by
  intro F
  induction F with
  | nil =>
    intro lo P hP hf
    have hP : P = 1 := hP
    have h0 : ∀ x : Row, InL [] x → f x = 0 := by
      intro x hx
      have : x = fun _ => 0 := funext hx
      rw [this]; exact hf.zero
    refine ⟨[], 1, k, rfl, rfl, fun x => ⟨fun h => ⟨h, ?_⟩, fun h => h.1⟩, hk, Int.dvd_refl k, fun x h => ?_, ⟨fun _ => 0, fun _ => rfl, ?_⟩, by rw [hP]⟩
    · rw [h0 x h]; exact Int.dvd_zero k
    · rw [h0 x h]; exact Int.dvd_zero k
    · rw [hf.zero]; exact ⟨-1, by omega⟩
  | cons a A ih =>
    rintro lo P ⟨p, P', hlo, hz, hp, hA, rfl⟩ hf
    obtain ⟨B, Q', gA, hB, hlen, hin, hg0, hgk, hgf, ⟨xA, hxA, hxk⟩, hQ⟩ := ih (p + 1) P' hA (fun x y k hx hy => hf x y k hx.tail hy.tail)
    obtain ⟨g, hg⟩ : ∃ g : Int, g = (Int.gcd gA (f a) : Int) := ⟨_, rfl⟩
    obtain ⟨u, v, huv⟩ := bezout_int gA (f a)
    rw [← hg] at huv
    obtain ⟨β, hβ⟩ : g ∣ gA := hg ▸ Int.gcd_dvd_left ..
    obtain ⟨α, hα⟩ : g ∣ f a := hg ▸ Int.gcd_dvd_right ..
    have hgp : 0 < g := by
      have h1 : 0 ≤ g := by omega
      rcases Int.lt_or_eq_of_le h1 with h | h
      · exact h
      · rw [← h, Int.zero_mul] at hβ; omega
    have hβp : 0 < β := by
      apply Int.pos_of_mul_pos_right (a := g) ?_ hgp
      omega
    have hza : InL A (fun j => 0 - α * xA j) := InL.sub (.zero A) (hxA.smul α)
    have hfz : f (fun j => 0 - α * xA j) = - (α * f xA) := by
      have := hf (fun _ => 0) xA α (.zero _) hxA.tail
      rw [hf.zero] at this
      rw [this]; omega
    -- the new row
    let b : Row := fun j => β * a j - α * xA j
    have hbF : InL (a :: A) b := InL.lin β α (.head a A) hxA.tail
    have hfs : ∀ (t : Int) x, InL (a :: A) x → f (fun j => t * x j) = t * f x := by
      intro t x hx
      have := hf (fun _ => 0) x (-t) (.zero _) hx
      rw [hf.zero] at this
      have e : (fun j => (0 : Int) - -t * x j) = fun j => t * x j := by funext j; grind
      rw [e] at this
      rw [this]; grind
    have hfb : f b = β * f a - α * f xA := by
      have h1 := hf (fun j => β * a j) xA α ((InL.head a A).smul β) hxA.tail
      rw [hfs β a (.head a A)] at h1
      exact h1
    have hkb : k ∣ f b := by
      obtain ⟨t, ht⟩ := hxk
      refine ⟨- (α * t), ?_⟩
      have : f xA = k * t + gA := by omega
      rw [hfb, this, hα, hβ]
      grind
    have hbp : b p = β * a p := by
      show β * a p - α * xA p = β * a p
      rw [hA.we.vanish hxA p (by omega)]; omega
    refine ⟨b :: B, b p * Q', g, ⟨p, Q', hlo, fun j hj => ?_, ?_, hB, rfl⟩, by simp [hlen], fun x => ⟨?_, ?_⟩, hgp, ?_, ?_, ?_, ?_⟩
    · show β * a j - α * xA j = 0
      rw [hz j hj, hA.we.vanish hxA j (by omega)]; simp
    · rw [hbp]; exact Int.mul_pos hβp hp
    · rintro ⟨c, hc⟩
      have h1 := (hin _).1 hc
      have h2 : InL (a :: A) x := (h1.1.tail.add (hbF.smul c)).congr (fun j => by grind)
      refine ⟨h2, ?_⟩
      have h3 := hf x b c h2 hbF
      rw [h3] at h1
      have : f x = (f x - c * f b) + c * f b := by omega
      rw [this]
      exact Int.dvd_add h1.2 (Int.dvd_mul_of_dvd_right hkb)
    · rintro ⟨⟨c, hy⟩, hkx⟩
      have hx : InL (a :: A) x := ⟨c, hy⟩
      have hfy := hf x a c hx (.head a A)
      have hgy := hgf _ hy
      rw [hfy] at hgy
      have h1 : gA ∣ c * f a := by
        have h2 : gA ∣ f x := Int.dvd_trans hgk hkx
        have h3 := Int.dvd_sub h2 hgy
        have e : f x - (f x - c * f a) = c * f a := by omega
        rwa [e] at h3
      obtain ⟨s, hs⟩ := h1
      -- beta divides c
      have h4 : c = β * (u * c + v * s) := by
        have e1 : c * g = c * (u * gA + v * f a) := by rw [huv]
        have e2 : c * g = (β * (u * c + v * s)) * g := by
          rw [e1, show c * (u * gA + v * f a) = u * c * gA + v * (c * f a) by grind, hs, hβ]
          grind
        exact Int.eq_of_mul_eq_mul_right (by omega) e2
      obtain ⟨c', hc'⟩ : ∃ c', c = β * c' := ⟨_, h4⟩
      refine ⟨c', (hin _).2 ⟨?_, ?_⟩⟩
      · refine (hy.add (hxA.smul (c' * α))).congr (fun j => ?_)
        show x j - c * a j + c' * α * xA j = x j - c' * (β * a j - α * xA j)
        rw [hc']; grind
      · rw [hf x b c' hx hbF]
        exact Int.dvd_sub hkx (Int.dvd_mul_of_dvd_right hkb)
    · exact Int.dvd_trans ⟨β, hβ⟩ hgk
    · rintro x ⟨c, hy⟩
      have hx : InL (a :: A) x := ⟨c, hy⟩
      have hfy := hf x a c hx (.head a A)
      have hgy := Int.dvd_trans ⟨β, hβ⟩ (hgf _ hy)
      rw [hfy] at hgy
      have e : f x = (f x - c * f a) + c * f a := by omega
      rw [e]
      exact Int.dvd_add hgy (Int.dvd_mul_of_dvd_right ⟨α, hα⟩)
    · refine ⟨fun j => u * xA j - (-v) * a j, InL.lin u (-v) hxA.tail (.head a A), ?_⟩
      have h1 := hf (fun j => u * xA j) a (-v) (hxA.tail.smul u) (.head a A)
      rw [hfs u xA hxA.tail] at h1
      rw [h1, huv]
      have e : u * f xA - -v * f a - (u * gA + v * f a) = u * (f xA - gA) := by grind
      rw [e]
      exact Int.dvd_mul_of_dvd_right hxk
    · rw [hbp]
      have e1 : β * a p * Q' * g = a p * (Q' * (g * β)) := by grind
      rw [e1, ← hβ, hQ]
      grind

/-- m is no combination of other rows, if the form has as many rows as the matrix. -/
theorem indep {M1 M2 : List Row} {m : Row} {F : List Row} {P : Int} (hF : EP 0 F P) (hS : Same (M1 ++ m :: M2) F) (hl : F.length = (M1 ++ m :: M2).length) {t : Int} (h : InL (M1 ++ M2) (fun j => t * m j)) : t = 0 := by
  by_cases ht : t = 0
  · exact ht
  · exfalso
    have h1 : ∀ f ∈ F.map (fun a => fun j => t * a j), InL (M1 ++ M2) f := by
      intro f hf
      obtain ⟨a, ha, rfl⟩ := List.mem_map.1 hf
      have h2 : InL (M1 ++ m :: M2) a := (hS a).2 (.mem ha)
      obtain ⟨k, h3⟩ := (Same.perm List.perm_middle a).1 h2
      exact ((h3.smul t).add (h.smul k)).congr (fun j => by grind)
    have := we_rank _ _ 0 (hF.we.smul ht) h1
    simp only [List.length_map, List.length_append, List.length_cons] at this hl
    omega
/-- One row is multiplied. -/
theorem step_scale {M1 M2 : List Row} {m : Row} {F : List Row} {P k : Int} (hF : EP 0 F P) (hS : Same (M1 ++ m :: M2) F) (hl : F.length = (M1 ++ m :: M2).length) (hk : k ≠ 0) :
    ∃ G, EP 0 G (P * (k.natAbs : Int)) ∧ G.length = F.length ∧ Same (M1 ++ (fun j => k * m j) :: M2) G := by
  have hi : ∀ t, InL (M1 ++ M2) (fun j => t * m j) → t = 0 := fun t h => indep hF hS hl h
  have hS' : Same (m :: (M1 ++ M2)) F := (Same.perm List.perm_middle).symm.trans hS
  obtain ⟨f, hf⟩ : ∃ f : Row → Int, ∀ x t, InL (M1 ++ M2) (fun j => x j - t * m j) → f x = t := by
    refine ⟨fun x => Classical.epsilon (fun t => InL (M1 ++ M2) (fun j => x j - t * m j)), fun x t h => ?_⟩
    have h1 := Classical.epsilon_spec (p := fun t => InL (M1 ++ M2) (fun j => x j - t * m j)) ⟨t, h⟩
    have h2 := hi (t - Classical.epsilon (fun t => InL (M1 ++ M2) (fun j => x j - t * m j))) ((InL.sub h1 h).congr (fun j => by grind))
    show Classical.epsilon (fun t => InL (M1 ++ M2) (fun j => x j - t * m j)) = t
    omega
  have hlin : LinOn F f := by
    intro x y c hx hy
    obtain ⟨s, hs⟩ := (hS' x).2 hx
    obtain ⟨t, ht⟩ := (hS' y).2 hy
    rw [hf x s hs, hf y t ht]
    exact hf _ _ ((InL.lin 1 c hs ht).congr (fun j => by grind))
  obtain ⟨G, Q, g, hG, hlen, hin, hg0, _, hgf, _, hQ⟩ := sub_lattice f (k.natAbs : Int) (by omega) F 0 P hF hlin
  have hm : f m = 1 := hf m 1 ((InL.zero _).congr (fun j => by grind))
  have hg1 : g = 1 := by
    have h1 := hgf m ((hS' m).1 (.head _ _))
    rw [hm] at h1
    have := Int.le_of_dvd (by omega) h1
    omega
  subst hg1
  rw [Int.mul_one] at hQ
  subst hQ
  refine ⟨G, hG, hlen, (Same.perm List.perm_middle).trans (fun x => ?_)⟩
  rw [hin]
  constructor
  · rintro ⟨c, hc⟩
    have h1 : InL (M1 ++ M2) (fun j => x j - (c * k) * m j) := hc.congr (fun j => by grind)
    refine ⟨(hS' x).1 ⟨c * k, h1⟩, ?_⟩
    rw [hf x _ h1]
    exact Int.dvd_mul_of_dvd_right (Int.natAbs_dvd.2 (Int.dvd_refl k))
  · rintro ⟨hx, hd⟩
    obtain ⟨t, ht⟩ := (hS' x).2 hx
    rw [hf x t ht] at hd
    obtain ⟨c, hc⟩ := Int.natAbs_dvd.1 hd
    exact ⟨c, ht.congr (fun j => by rw [hc]; grind)⟩
/-- The multiplied rows. -/
def scl : List Int → List Row → List Row
  | k :: ks, m :: M => (fun j => k * m j) :: scl ks M
  | _, _ => []
def prodAbs : List Int → Int
  | [] => 1
  | k :: ks => (k.natAbs : Int) * prodAbs ks
theorem scl_len : ∀ (ks : List Int) (M : List Row), ks.length = M.length → (scl ks M).length = M.length := by
  intro ks
  induction ks with
  | nil => intro M h; cases M with | nil => rfl | cons m M => simp at h
  | cons k ks ih => intro M h; cases M with | nil => simp at h | cons m M => simp at h; simp [scl, ih M h]
/-- All rows are multiplied. -/
theorem chain_scale : ∀ (M2 : List Row) (ks : List Int) (M1 F : List Row) (P : Int), ks.length = M2.length → (∀ k ∈ ks, k ≠ 0) → EP 0 F P → Same (M1 ++ M2) F → F.length = (M1 ++ M2).length →
    ∃ G, EP 0 G (P * prodAbs ks) ∧ G.length = F.length ∧ Same (M1 ++ scl ks M2) G := by
  intro M2
  induction M2 with
  | nil =>
    intro ks M1 F P hk _ hF hS hl
    have : ks = [] := List.eq_nil_of_length_eq_zero hk
    subst this
    exact ⟨F, by show EP 0 F (P * 1); rw [Int.mul_one]; exact hF, rfl, hS⟩
  | cons m M2 ih =>
    intro ks M1 F P hk hn hF hS hl
    cases ks with
    | nil => simp at hk
    | cons k ks =>
      obtain ⟨G1, h1, h2, h3⟩ := step_scale hF hS hl (hn k (List.mem_cons_self ..))
      have e : ∀ (X : List Row) (r : Row), M1 ++ r :: X = (M1 ++ [r]) ++ X := by intro X r; simp
      rw [e] at h3
      obtain ⟨G, g1, g2, g3⟩ := ih ks (M1 ++ [fun j => k * m j]) G1 _ (by simpa using hk) (fun k' hk' => hn k' (List.mem_cons_of_mem _ hk')) h1 h3 (by
        rw [h2, hl]; simp only [List.length_append, List.length_cons, List.length_nil]; omega)
      refine ⟨G, ?_, by rw [g2, h2], ?_⟩
      · have e2 : P * prodAbs (k :: ks) = P * (k.natAbs : Int) * prodAbs ks := by
          show P * ((k.natAbs : Int) * prodAbs ks) = _
          rw [Int.mul_assoc]
        rw [e2]; exact g1
      · have e3 : M1 ++ scl (k :: ks) (m :: M2) = (M1 ++ [fun j => k * m j]) ++ scl ks M2 := by simp [scl]
        rw [e3]; exact g3
/-- The multiplied rows lie in the lattice, and a multiple of the lattice lies in theirs. -/
theorem scl_in : ∀ (ks : List Int) (M : List Row), ∀ x ∈ scl ks M, InL M x := by
  intro ks
  induction ks with
  | nil => intro M x hx; cases M <;> cases hx
  | cons k ks ih =>
    intro M x hx
    cases M with
    | nil => cases hx
    | cons m M =>
      rcases List.mem_cons.1 hx with rfl | hx
      · exact (InL.head m M).smul k
      · exact (ih M x hx).tail
theorem scl_mult : ∀ (ks : List Int) (M : List Row), ks.length = M.length → (∀ k ∈ ks, k ≠ 0) → ∃ K : Int, K ≠ 0 ∧ ∀ x, InL M x → InL (scl ks M) (fun j => K * x j) := by
  intro ks
  induction ks with
  | nil =>
    intro M h _
    have : M = [] := List.eq_nil_of_length_eq_zero h.symm
    subst this
    exact ⟨1, by decide, fun x hx => hx.congr (fun j => by simp)⟩
  | cons k ks ih =>
    intro M h hn
    cases M with
    | nil => simp at h
    | cons m M =>
      obtain ⟨K, hK, hin⟩ := ih M (by simpa using h) (fun k' hk' => hn k' (List.mem_cons_of_mem _ hk'))
      refine ⟨K * k, Int.mul_ne_zero hK (hn k (List.mem_cons_self ..)), ?_⟩
      rintro x ⟨c, hc⟩
      refine ⟨K * c, ?_⟩
      exact ((hin _ hc).smul k).congr (fun j => by grind)
end Go.Proofs.YtmfkpmepgbjmkaaGreatDoor.Hnf
