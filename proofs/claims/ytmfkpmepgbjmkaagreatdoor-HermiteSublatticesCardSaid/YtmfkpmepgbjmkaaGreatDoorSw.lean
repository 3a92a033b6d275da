/-
  PLAIN MATHEMATICS: a sweep's rounds: the lattice stays, the numbers stay bounded, the least element goes down.
-/
import Derived.Test.YtmfkpmepgbjmkaaGreatDoorLn
set_option linter.unusedVariables false
set_option linter.unusedSimpArgs false
namespace Go.Proofs.YtmfkpmepgbjmkaaGreatDoor.Ln
open Go.Proofs.YtmfkpmepgbjmkaaGreatDoor.Hnf

/-- Downward quotient. -/
def fq (a b : Int) : Int := if 0 < b then a / b else (-a) / (-b)
theorem fq_spec {a b : Int} (hb : b ≠ 0) : a = b * fq a b + (a - b * fq a b) ∧ (0 ≤ a - b * fq a b ∧ a - b * fq a b < b ∨ b < a - b * fq a b ∧ a - b * fq a b ≤ 0) := by
  refine ⟨by omega, ?_⟩
  unfold fq
  split
  · rename_i h
    have h1 := Int.emod_nonneg a hb
    have h2 := Int.emod_lt_of_pos a h
    rw [Int.emod_def] at h1 h2
    omega
  · rename_i h
    have h1 := Int.emod_nonneg (-a) (show -b ≠ 0 by omega)
    have h2 := Int.emod_lt_of_pos (-a) (show 0 < -b by omega)
    rw [Int.emod_def, Int.neg_mul] at h1 h2
    omega
theorem small_mul {b t : Int} (h : (b * t).natAbs < b.natAbs) : t = 0 := by
  rw [Int.natAbs_mul] at h
  rcases Nat.eq_zero_or_pos t.natAbs with h0 | h0
  · omega
  · have := Nat.mul_le_mul_left b.natAbs h0
    omega
theorem fq_unique {a b q r : Int} (hb : b ≠ 0) (h : a = b * q + r) (hr : 0 ≤ r ∧ r < b ∨ b < r ∧ r ≤ 0) : q = fq a b := by
  obtain ⟨_, h2⟩ := fq_spec (a := a) hb
  have h3 : b * (q - fq a b) = (a - b * fq a b) - r := by rw [Int.mul_sub]; omega
  have := small_mul (b := b) (t := q - fq a b) (by rw [h3]; omega)
  omega
theorem fq_zero (b : Int) : fq 0 b = 0 := by unfold fq; split <;> simp
theorem fq_bound {a b : Int} (hb : b ≠ 0) : (fq a b).natAbs * b.natAbs ≤ a.natAbs + b.natAbs := by
  obtain ⟨_, h2⟩ := fq_spec (a := a) hb
  have h3 : (b * fq a b).natAbs = b.natAbs * (fq a b).natAbs := Int.natAbs_mul _ _
  rw [Nat.mul_comm]
  omega
theorem fq_abs {a b : Int} (hb : b ≠ 0) : (fq a b).natAbs ≤ a.natAbs := by
  obtain ⟨h1, h2⟩ := fq_spec (a := a) hb
  have h3 : (b * fq a b).natAbs = b.natAbs * (fq a b).natAbs := Int.natAbs_mul _ _
  have hb1 : 1 ≤ b.natAbs := by omega
  rcases Nat.lt_or_ge a.natAbs (fq a b).natAbs with h | h
  · exfalso
    by_cases hbig : b.natAbs = 1
    · rw [hbig] at h3
      omega
    · have h5 : 2 * (fq a b).natAbs ≤ b.natAbs * (fq a b).natAbs := Nat.mul_le_mul_right _ (by omega)
      have h6 : b.natAbs * (a.natAbs + 1) ≤ b.natAbs * (fq a b).natAbs := Nat.mul_le_mul_left _ h
      rw [Nat.mul_add] at h6
      have h7 : a.natAbs ≤ b.natAbs * a.natAbs := Nat.le_mul_of_pos_left _ hb1
      -- |b q| ≤ |a| + |r|, |r| ≤ |b| - 1
      omega
  · exact h

def at_ (c : Nat) (l : Ln) : Int := l.1.getD c 0
/-- All numbers of a line are at most F. -/
def Bd (F : Nat) (l : Ln) : Prop := (∀ x ∈ l.1, x.natAbs ≤ F) ∧ (∀ x ∈ l.2, x.natAbs ≤ F)
theorem Bd.mono {F G : Nat} (h : F ≤ G) {l : Ln} (hl : Bd F l) : Bd G l := ⟨fun x hx => Nat.le_trans (hl.1 x hx) h, fun x hx => Nat.le_trans (hl.2 x hx) h⟩
theorem Bd.at_ {F : Nat} {l : Ln} (hl : Bd F l) (c : Nat) : (at_ c l).natAbs ≤ F := by
  unfold Ln.at_
  rw [List.getD_eq_getElem?_getD]
  rcases Nat.lt_or_ge c l.1.length with h | h
  · rw [List.getElem?_eq_getElem h]
    exact hl.1 _ (List.getElem_mem h)
  · rw [List.getElem?_eq_none h]
    exact Nat.zero_le _
theorem bd_sub {F E : Nat} {k : Int} {a b : List Int} (ha : ∀ x ∈ a, x.natAbs ≤ F) (hb : ∀ x ∈ b, x.natAbs ≤ E) : ∀ x ∈ sub k a b, x.natAbs ≤ F + k.natAbs * E := by
  induction a generalizing b with
  | nil => intro x hx; simp [sub] at hx
  | cons y a ih =>
    cases b with
    | nil => intro x hx; simp [sub] at hx
    | cons z b =>
      intro x hx
      have : x = y - k * z ∨ x ∈ sub k a b := by simpa [sub] using hx
      rcases this with rfl | hx
      · have h1 := ha y (List.mem_cons_self ..)
        have h2 := hb z (List.mem_cons_self ..)
        have h3 : (k * z).natAbs = k.natAbs * z.natAbs := Int.natAbs_mul _ _
        have h4 : k.natAbs * z.natAbs ≤ k.natAbs * E := Nat.mul_le_mul_left _ h2
        omega
      · exact ih (fun x hx => ha x (List.mem_cons_of_mem _ hx)) (fun x hx => hb x (List.mem_cons_of_mem _ hx)) x hx
theorem Bd.less {F E : Nat} {k : Int} {a b : Ln} (ha : Bd F a) (hb : Bd E b) : Bd (F + k.natAbs * E) (less k a b) :=
  ⟨bd_sub ha.1 hb.1, bd_sub ha.2 hb.2⟩
theorem Bd.turn {F : Nat} {a : Ln} (ha : Bd F a) : Bd F (turn a) := by
  constructor
  · intro x hx
    obtain ⟨y, hy, rfl⟩ := List.mem_map.1 hx
    rw [Int.natAbs_neg]
    exact ha.1 y hy
  · intro x hx
    obtain ⟨y, hy, rfl⟩ := List.mem_map.1 hx
    rw [Int.natAbs_neg]
    exact ha.2 y hy

/-- What a round makes of another line. -/
def lessq (c : Nat) (top a : Ln) : Ln := less (fq (at_ c a) (at_ c top)) a top
theorem at_lessq {n m c : Nat} {top a : Ln} (ht : Sized n m top) (ha : Sized n m a) : at_ c (lessq c top a) = at_ c a - at_ c top * fq (at_ c a) (at_ c top) := by
  unfold lessq at_ less
  show (sub _ a.1 top.1).getD c 0 = _
  rw [sub_getD (by rw [ht.1, ha.1]), Int.mul_comm]
theorem at_lessq_zero {n m c : Nat} {top a : Ln} (ht : Sized n m top) (ha : Sized n m a) (h0 : at_ c a = 0) : at_ c (lessq c top a) = 0 := by
  rw [at_lessq ht ha, h0, fq_zero, Int.mul_zero]
  rfl
theorem rem_spec {n m c : Nat} {top a : Ln} (ht : Sized n m top) (ha : Sized n m a) (h0 : at_ c top ≠ 0) :
    0 ≤ at_ c (lessq c top a) ∧ at_ c (lessq c top a) < at_ c top ∨ at_ c top < at_ c (lessq c top a) ∧ at_ c (lessq c top a) ≤ 0 := by
  rw [at_lessq ht ha]
  exact (fq_spec h0).2
theorem Sized.lessq {n m c : Nat} {top a : Ln} (ht : Sized n m top) (ha : Sized n m a) : Sized n m (lessq c top a) := ha.less ht

theorem same_lessq {n m : Nat} {c : Nat} {a : Ln} {R : List Ln} (hc : c < n) (ha : Sized n m a) (hR : ∀ r ∈ R, Sized n m r) :
    Same (rows n (a :: R)) (rows n (a :: R.map (lessq c a))) := by
  have h := Same.clear (row n a) (R.map (row n)) (fun r => fq (r c) (row n a c))
  have e : (R.map (row n)).map (fun r => fun j => r j - (fun r : Row => fq (r c) (row n a c)) r * row n a j) = (R.map (lessq c a)).map (row n) := by
    rw [List.map_map, List.map_map]
    apply List.map_congr_left
    intro r hr
    show _ = row n (lessq c a r)
    unfold lessq
    rw [row_less (hR r hr) ha]
    funext j
    show row n r j - fq (row n r c) (row n a c) * row n a j = _
    rw [row_at r hc, row_at a hc]
    rfl
  rw [e] at h
  exact h

/-- How many lines are not zero in a column. -/
def nz (c : Nat) (L : List Ln) : Nat := L.countP (fun l => decide (at_ c l ≠ 0))
/-- A line with the least element that is not zero. -/
def Least (c : Nat) (l : Ln) (L : List Ln) : Prop := at_ c l ≠ 0 ∧ ∀ l' ∈ L, at_ c l' ≠ 0 → (at_ c l).natAbs ≤ (at_ c l').natAbs
theorem exists_least_ (c : Nat) : ∀ (L : List Ln), (∃ l ∈ L, at_ c l ≠ 0) → ∃ l ∈ L, Least c l L := by
  intro L
  induction L with
  | nil => rintro ⟨l, hl, _⟩; cases hl
  | cons a L ih =>
    rintro ⟨l, hl, h0⟩
    by_cases hL : ∃ l ∈ L, at_ c l ≠ 0
    · obtain ⟨b, hb, hb0, hb1⟩ := ih hL
      by_cases ha : at_ c a ≠ 0 ∧ (at_ c a).natAbs < (at_ c b).natAbs
      · refine ⟨a, List.mem_cons_self .., ha.1, fun l' hl' h' => ?_⟩
        rcases List.mem_cons.1 hl' with rfl | hl'
        · exact Nat.le_refl _
        · exact Nat.le_trans (Nat.le_of_lt ha.2) (hb1 l' hl' h')
      · refine ⟨b, List.mem_cons_of_mem _ hb, hb0, fun l' hl' h' => ?_⟩
        rcases List.mem_cons.1 hl' with rfl | hl'
        · rcases Nat.lt_or_ge (at_ c l').natAbs (at_ c b).natAbs with h | h
          · exact absurd ⟨h', h⟩ ha
          · exact h
        · exact hb1 l' hl' h'
    · rcases List.mem_cons.1 hl with rfl | hl
      · refine ⟨l, List.mem_cons_self .., h0, fun l' hl' h' => ?_⟩
        rcases List.mem_cons.1 hl' with rfl | hl'
        · exact Nat.le_refl _
        · exact absurd ⟨l', hl', h'⟩ hL
      · exact absurd ⟨l, hl, h0⟩ hL

/-- The state behind the first round: all elements have one sign, the greatest is M, and the numbers' bound has room. -/
def Pot (c T : Nat) (L : List Ln) : Prop := ∃ (s : Int) (F M : Nat), (s = 1 ∨ s = -1) ∧ (∀ l ∈ L, Bd F l) ∧ (∀ l ∈ L, 0 ≤ s * at_ c l ∧ s * at_ c l ≤ M) ∧ (∃ l ∈ L, s * at_ c l = M) ∧ 0 < M ∧
  ∀ l ∈ L, Least c l L → F * M * ((M * (at_ c l).natAbs) * (M * (at_ c l).natAbs)) ≤ T
def Last (c B : Nat) (L : List Ln) : Prop := (∀ l ∈ L, Bd B l) ∧ nz c L = 1
def TB (F : Nat) : Nat := F * (F + 2) * F * ((F * F) * (F * F))
/-- The bound for one sweep. -/
def FB (F : Nat) : Nat := 3 * TB F + F * (F + 2)
def St (c F : Nat) (L : List Ln) : Prop := (∀ l ∈ L, Bd F l) ∨ Pot c (TB F) L ∨ Last c (3 * TB F) L

theorem F_le_FB (F : Nat) : F ≤ FB F := by
  unfold FB
  have : F * 1 ≤ F * (F + 2) := Nat.mul_le_mul_left _ (by omega)
  omega
theorem le_mul_pos (a : Nat) {b : Nat} (h : 0 < b) : a ≤ a * b := Nat.le_mul_of_pos_right _ h
theorem St.bd {c F : Nat} {L : List Ln} (h : St c F L) : ∀ l ∈ L, Bd (FB F) l := by
  rcases h with h | ⟨s, F', M, hs, hF, _, ⟨l0, hl0, hm⟩, hM, hP⟩ | h
  · exact fun l hl => (h l hl).mono (F_le_FB F)
  · intro l hl
    refine (hF l hl).mono ?_
    obtain ⟨b, hb, hL⟩ := exists_least_ c L ⟨l0, hl0, fun h => by rw [h] at hm; simp at hm; omega⟩
    have h1 := hP b hb hL
    have h2 : 0 < (at_ c b).natAbs := by have := hL.1; omega
    have h3 : 0 < M * (at_ c b).natAbs := Nat.mul_pos hM h2
    have h4 := le_mul_pos F' hM
    have h5 := le_mul_pos (F' * M) (Nat.mul_pos h3 h3)
    unfold FB
    omega
  · exact fun l hl => (h.1 l hl).mono (by unfold FB; omega)

theorem nz_perm {c : Nat} {A B : List Ln} (h : A.Perm B) : nz c A = nz c B := h.countP_eq _
theorem Least.perm {c : Nat} {l : Ln} {A B : List Ln} (h : A.Perm B) (hl : Least c l A) : Least c l B := ⟨hl.1, fun l' hl' => hl.2 l' (h.mem_iff.2 hl')⟩
theorem St.perm {c F : Nat} {A B : List Ln} (h : A.Perm B) (hs : St c F A) : St c F B := by
  rcases hs with hs | ⟨s, F', M, h1, h2, h3, ⟨l0, hl0, h4⟩, h5, h6⟩ | hs
  · exact .inl fun l hl => hs l (h.mem_iff.2 hl)
  · exact .inr (.inl ⟨s, F', M, h1, fun l hl => h2 l (h.mem_iff.2 hl), fun l hl => h3 l (h.mem_iff.2 hl), ⟨l0, h.mem_iff.1 hl0, h4⟩, h5, fun l hl hL => h6 l (h.mem_iff.2 hl) (hL.perm h.symm)⟩)
  · exact .inr (.inr ⟨fun l hl => hs.1 l (h.mem_iff.2 hl), (nz_perm h).symm.trans hs.2⟩)

/-- The measure of the rounds. -/
def Ms (c k : Nat) (L : List Ln) : Prop := ∀ l ∈ L, Least c l L → 2 * (at_ c l).natAbs + (if 1 < nz c L then 1 else 0) < k
theorem Ms.perm {c k : Nat} {A B : List Ln} (h : A.Perm B) (hs : Ms c k A) : Ms c k B := fun l hl hL => by
  rw [← nz_perm h]
  exact hs l (h.mem_iff.2 hl) (hL.perm h.symm)
theorem Ms.start {c F : Nat} {L : List Ln} (h : ∀ l ∈ L, Bd F l) : Ms c (2 * F + 2) L := fun l hl _ => by
  have := (h l hl).at_ c
  split <;> omega

theorem nz_zero {c : Nat} {L : List Ln} (h : ∀ l ∈ L, at_ c l = 0) : nz c L = 0 := by
  unfold nz
  rw [List.countP_eq_zero]
  intro l hl
  simp [h l hl]
theorem nz_cons {c : Nat} {a : Ln} (L : List Ln) (h : at_ c a ≠ 0) : nz c (a :: L) = nz c L + 1 := by
  unfold nz
  rw [List.countP_cons_of_pos (by simpa using h)]
theorem zero_of_nz {c : Nat} {L : List Ln} (h : nz c L = 0) : ∀ l ∈ L, at_ c l = 0 := by
  unfold nz at h
  rw [List.countP_eq_zero] at h
  intro l hl
  have := h l hl
  simpa using this

/-- All elements of a round's result: zero or less than the first one's. -/
theorem round_lt {n m c : Nat} {top : Ln} {R : List Ln} (ht : Sized n m top) (hR : ∀ r ∈ R, Sized n m r) (h0 : at_ c top ≠ 0) :
    ∀ r ∈ R.map (lessq c top), (at_ c r).natAbs < (at_ c top).natAbs := by
  intro r hr
  obtain ⟨a, ha, rfl⟩ := List.mem_map.1 hr
  have := rem_spec (c := c) ht (hR a ha) h0
  omega
theorem Ms.round {n m c k : Nat} {top : Ln} {R : List Ln} (ht : Sized n m top) (hR : ∀ r ∈ R, Sized n m r) (hL : Least c top (top :: R)) (h1 : nz c (top :: R) ≠ 1) (hk : Ms c k (top :: R)) :
    ∃ k', k' < k ∧ Ms c k' (top :: R.map (lessq c top)) := by
  have h2 : 1 < nz c (top :: R) := by
    have := nz_cons R hL.1
    omega
  have h3 := hk top (List.mem_cons_self ..) hL
  rw [if_pos h2] at h3
  refine ⟨2 * (at_ c top).natAbs + 1, by omega, ?_⟩
  intro l hl hl'
  have hlt := round_lt ht hR hL.1
  rcases List.mem_cons.1 hl with rfl | hl
  · have : nz c (R.map (lessq c l)) = 0 := by
      apply nz_zero
      intro r hr
      have h4 := hlt r hr
      have h5 := hl'.2 r (List.mem_cons_of_mem _ hr)
      by_cases h : at_ c r = 0
      · exact h
      · have := h5 h; omega
    rw [nz_cons _ hL.1, this, if_neg (by omega)]
    omega
  · have := hlt l hl
    split <;> omega

theorem mul_bound {F k m M : Nat} (h : k * m ≤ M + m) : (F + k * F) * m ≤ F * (M + 2 * m) := by
  have h1 : F * (k * m) ≤ F * (M + m) := Nat.mul_le_mul_left _ h
  have e1 : (F + k * F) * m = F * m + F * (k * m) := by rw [Nat.add_mul, Nat.mul_comm k F, Nat.mul_assoc]
  have e2 : F * (M + 2 * m) = F * m + F * (M + m) := by rw [← Nat.mul_add]; congr 1; omega
  omega

/-- The first round. -/
theorem Pot.first {n m c F : Nat} {top : Ln} {R : List Ln} (ht : Sized n m top) (hR : ∀ r ∈ R, Sized n m r) (hB : ∀ l ∈ top :: R, Bd F l) (hL : Least c top (top :: R)) :
    Pot c (TB F) (top :: R.map (lessq c top)) := by
  have hlt := round_lt (c := c) ht hR hL.1
  have hF : 0 < F := by
    have := (hB top (List.mem_cons_self ..)).at_ c
    have := hL.1
    omega
  obtain ⟨s, hs, hst⟩ : ∃ s : Int, (s = 1 ∨ s = -1) ∧ s * at_ c top = (at_ c top).natAbs := by
    rcases Int.lt_trichotomy (at_ c top) 0 with h | h | h
    · exact ⟨-1, .inr rfl, by omega⟩
    · exact absurd h hL.1
    · exact ⟨1, .inl rfl, by omega⟩
  have htop := (hB top (List.mem_cons_self ..)).at_ c
  refine ⟨s, F * (F + 2), (at_ c top).natAbs, hs, ?_, ?_, ⟨top, List.mem_cons_self .., hst⟩, by have := hL.1; omega, ?_⟩
  · intro l hl
    rcases List.mem_cons.1 hl with rfl | hl
    · exact (hB l (List.mem_cons_self ..)).mono (Nat.le_mul_of_pos_right _ (by omega))
    · obtain ⟨a, ha, rfl⟩ := List.mem_map.1 hl
      have hq : (fq (at_ c a) (at_ c top)).natAbs ≤ F := Nat.le_trans (fq_abs hL.1) ((hB a (List.mem_cons_of_mem _ ha)).at_ c)
      refine ((hB a (List.mem_cons_of_mem _ ha)).less (k := fq (at_ c a) (at_ c top)) (hB top (List.mem_cons_self ..))).mono ?_
      have := Nat.mul_le_mul_right F hq
      have e : F * (F + 2) = F * F + F + F := by rw [Nat.mul_add]; omega
      omega
  · intro l hl
    rcases List.mem_cons.1 hl with rfl | hl
    · rw [hst]; exact ⟨by omega, Int.le_refl _⟩
    · obtain ⟨a, ha, rfl⟩ := List.mem_map.1 hl
      have := rem_spec (c := c) ht (hR a ha) hL.1
      rcases hs with rfl | rfl <;> omega
  · intro l hl hl'
    have h1 := hl'.2 top (List.mem_cons_self ..) hL.1
    have h2 : (at_ c top).natAbs * (at_ c l).natAbs ≤ F * F := Nat.mul_le_mul htop (Nat.le_trans h1 htop)
    unfold TB
    exact Nat.mul_le_mul (Nat.mul_le_mul_left _ htop) (Nat.mul_le_mul h2 h2)

theorem pot_arith {F F' M m m' T : Nat} (hT : F * M * ((M * m) * (M * m)) ≤ T) (hm : 2 * m' ≤ M) (hmM : m ≤ M) (hF : F' * m ≤ F * (M + 2 * m)) : F' * m * ((m * m') * (m * m')) ≤ T := by
  have h1 : F' * m ≤ F * (3 * M) := Nat.le_trans hF (Nat.mul_le_mul_left _ (by omega))
  have h2 : (2 * m') * (2 * m') ≤ M * M := Nat.mul_le_mul hm hm
  have e1 : F * M * ((M * m) * (M * m)) = (F * M * (m * m)) * (M * M) := by
    simp only [Nat.mul_assoc, Nat.mul_left_comm, Nat.mul_comm]
  have e2 : F' * m * ((m * m') * (m * m')) = (F' * m) * (m * m) * (m' * m') := by
    simp only [Nat.mul_assoc, Nat.mul_left_comm, Nat.mul_comm]
  have h3 : (F' * m) * (m * m) * (m' * m') ≤ (F * (3 * M)) * (m * m) * (m' * m') := Nat.mul_le_mul_right _ (Nat.mul_le_mul_right _ h1)
  have e3 : (F * (3 * M)) * (m * m) * (m' * m') = 3 * ((F * M * (m * m)) * (m' * m')) := by
    simp only [Nat.mul_assoc, Nat.mul_left_comm, Nat.mul_comm]
  have h4 : (F * M * (m * m)) * ((2 * m') * (2 * m')) ≤ (F * M * (m * m)) * (M * M) := Nat.mul_le_mul_left _ h2
  have e4 : (F * M * (m * m)) * ((2 * m') * (2 * m')) = 4 * ((F * M * (m * m)) * (m' * m')) := by
    simp only [Nat.mul_assoc, Nat.mul_left_comm, Nat.mul_comm, show (4 : Nat) = 2 * 2 from rfl]
  omega

theorem Pot.round {n m c T : Nat} {top : Ln} {R : List Ln} (ht : Sized n m top) (hR : ∀ r ∈ R, Sized n m r) (hL : Least c top (top :: R)) (hP : Pot c T (top :: R)) :
    Pot c T (top :: R.map (lessq c top)) ∨ Last c (3 * T) (top :: R.map (lessq c top)) := by
  obtain ⟨s, F, M, hs, hF, hb, ⟨l0, hl0, hm⟩, hM, hpot⟩ := hP
  have hlt := round_lt (c := c) ht hR hL.1
  have hst := hb top (List.mem_cons_self ..)
  have hst' : s * at_ c top = (at_ c top).natAbs := by rcases hs with rfl | rfl <;> omega
  have hpt := hpot top (List.mem_cons_self ..) hL
  have hm0 : 0 < (at_ c top).natAbs := by have := hL.1; omega
  have hmM : (at_ c top).natAbs ≤ M := by omega
  -- the numbers
  have hbd : ∀ l ∈ top :: R.map (lessq c top), ∃ k : Nat, k * (at_ c top).natAbs ≤ M + (at_ c top).natAbs ∧ Bd (F + k * F) l := by
    intro l hl
    rcases List.mem_cons.1 hl with rfl | hl
    · exact ⟨0, by omega, (hF l (List.mem_cons_self ..)).mono (by omega)⟩
    · obtain ⟨a, ha, rfl⟩ := List.mem_map.1 hl
      refine ⟨(fq (at_ c a) (at_ c top)).natAbs, ?_, (hF a (List.mem_cons_of_mem _ ha)).less (hF top (List.mem_cons_self ..))⟩
      have h1 := fq_bound (a := at_ c a) hL.1
      have h2 := hb a (List.mem_cons_of_mem _ ha)
      have : (at_ c a).natAbs ≤ M := by rcases hs with rfl | rfl <;> omega
      omega
  obtain ⟨K, hK, hKm⟩ : ∃ K : Nat, K * (at_ c top).natAbs ≤ M + (at_ c top).natAbs ∧ ∀ k : Nat, k * (at_ c top).natAbs ≤ M + (at_ c top).natAbs → k ≤ K :=
    ⟨(M + (at_ c top).natAbs) / (at_ c top).natAbs, Nat.div_mul_le_self _ _, fun k hk => (Nat.le_div_iff_mul_le hm0).2 hk⟩
  have hBd : ∀ l ∈ top :: R.map (lessq c top), Bd (F + K * F) l := fun l hl => by
    obtain ⟨k, hk, hb⟩ := hbd l hl
    exact hb.mono (by have := Nat.mul_le_mul_right F (hKm k hk); omega)
  have hFm := mul_bound (F := F) hK
  by_cases hq : (at_ c top).natAbs = M
  · -- all are as great: the others become zero
    refine .inr ⟨fun l hl => (hBd l hl).mono ?_, ?_⟩
    · rw [hq] at hFm hpt
      have h1 : (F + K * F) * M ≤ F * M * 3 := by
        have : F * (M + 2 * M) = F * M * 3 := by rw [show M + 2 * M = M * 3 by omega, Nat.mul_assoc]
        omega
      have h2 := le_mul_pos (F + K * F) hM
      have h3 := le_mul_pos (F * M) (Nat.mul_pos (Nat.mul_pos hM hM) (Nat.mul_pos hM hM))
      omega
    · rw [nz_cons _ hL.1, nz_zero]
      intro r hr
      obtain ⟨a, ha, rfl⟩ := List.mem_map.1 hr
      by_cases h0 : at_ c a = 0
      · exact at_lessq_zero ht (hR a ha) h0
      · have h1 := hL.2 a (List.mem_cons_of_mem _ ha) h0
        have h2 := hb a (List.mem_cons_of_mem _ ha)
        have h3 : at_ c a = at_ c top := by rcases hs with rfl | rfl <;> omega
        rw [at_lessq ht (hR a ha), h3]
        have : fq (at_ c top) (at_ c top) = 1 := (fq_unique hL.1 (r := 0) (by omega) (by have := hL.1; omega)).symm
        rw [this]
        omega
  · refine .inl ⟨s, F + K * F, (at_ c top).natAbs, hs, hBd, ?_, ⟨top, List.mem_cons_self .., hst'⟩, hm0, ?_⟩
    · intro l hl
      rcases List.mem_cons.1 hl with rfl | hl
      · omega
      · obtain ⟨a, ha, rfl⟩ := List.mem_map.1 hl
        have := rem_spec (c := c) ht (hR a ha) hL.1
        rcases hs with rfl | rfl <;> omega
    · intro l hl hl'
      refine pot_arith hpt ?_ hmM hFm
      have h1 := hl'.2 top (List.mem_cons_self ..) hL.1
      -- the line with M
      have hl0R : l0 ∈ R := by
        rcases List.mem_cons.1 hl0 with rfl | h
        · omega
        · exact h
      have h2 := rem_spec (c := c) ht (hR l0 hl0R) hL.1
      have h3 := at_lessq (c := c) ht (hR l0 hl0R)
      have h4 := hl'.2 _ (List.mem_cons_of_mem _ (List.mem_map.2 ⟨l0, hl0R, rfl⟩))
      obtain ⟨q, hq'⟩ : ∃ q, q = fq (at_ c l0) (at_ c top) := ⟨_, rfl⟩
      rw [← hq'] at h3
      obtain ⟨r, hr'⟩ : ∃ r, r = at_ c (lessq c top l0) := ⟨_, rfl⟩
      rw [← hr'] at h2 h3 h4
      have h5 : (at_ c top * q) = at_ c l0 - r := by omega
      have h6 : 1 ≤ q := by
        rcases Int.lt_or_le q 1 with h | h
        · exfalso
          rcases hs with rfl | rfl
          · have : at_ c top * q ≤ at_ c top * 0 := Int.mul_le_mul_of_nonneg_left (by omega) (by omega)
            omega
          · have : (-at_ c top) * q ≤ (-at_ c top) * 0 := Int.mul_le_mul_of_nonneg_left (by omega) (by omega)
            rw [Int.neg_mul] at this
            omega
        · exact h
      by_cases hr0 : r = 0
      · have h7 : 2 ≤ q := by
          rcases Int.lt_or_le q 2 with h | h
          · exfalso
            obtain rfl : q = 1 := by omega
            rcases hs with rfl | rfl <;> omega
          · exact h
        rcases hs with rfl | rfl
        · have : at_ c top * 2 ≤ at_ c top * q := Int.mul_le_mul_of_nonneg_left (by omega) (by omega)
          omega
        · have : (-at_ c top) * 2 ≤ (-at_ c top) * q := Int.mul_le_mul_of_nonneg_left (by omega) (by omega)
          rw [Int.neg_mul, Int.neg_mul] at this
          omega
      · have h8 := h4 hr0
        rcases hs with rfl | rfl
        · have : at_ c top * 1 ≤ at_ c top * q := Int.mul_le_mul_of_nonneg_left (by omega) (by omega)
          omega
        · have : (-at_ c top) * 1 ≤ (-at_ c top) * q := Int.mul_le_mul_of_nonneg_left (by omega) (by omega)
          rw [Int.neg_mul, Int.neg_mul] at this
          omega

theorem St.round {n m c F : Nat} {top : Ln} {R : List Ln} (ht : Sized n m top) (hR : ∀ r ∈ R, Sized n m r) (hL : Least c top (top :: R)) (h1 : nz c (top :: R) ≠ 1) (hS : St c F (top :: R)) :
    St c F (top :: R.map (lessq c top)) := by
  rcases hS with h | h | h
  · exact .inr (.inl (Pot.first ht hR h hL))
  · rcases Pot.round ht hR hL h with h | h
    · exact .inr (.inl h)
    · exact .inr (.inr h)
  · exact absurd h.2 h1

/-- Where a sweep stands. -/
structure Sw (n m c F : Nat) (L0 L : List Ln) : Prop where
  len : L.length = L0.length
  sized : ∀ l ∈ L, Sized n m l
  same : Same (rows n L0) (rows n L)
  st : St c F L
theorem rows_perm {n : Nat} {A B : List Ln} (h : A.Perm B) : (rows n A).Perm (rows n B) := h.map _
theorem Sw.perm {n m c F : Nat} {L0 L L' : List Ln} (h : Sw n m c F L0 L) (hp : L.Perm L') : Sw n m c F L0 L' :=
  ⟨hp.length_eq.symm.trans h.len, fun l hl => h.sized l (hp.mem_iff.2 hl), h.same.trans (Same.perm (rows_perm hp)), h.st.perm hp⟩
theorem Sw.round {n m c F : Nat} {L0 : List Ln} {top : Ln} {R : List Ln} (hc : c < n) (h : Sw n m c F L0 (top :: R)) (hL : Least c top (top :: R)) (h1 : nz c (top :: R) ≠ 1) :
    Sw n m c F L0 (top :: R.map (lessq c top)) := by
  have ht := h.sized top (List.mem_cons_self ..)
  have hR : ∀ r ∈ R, Sized n m r := fun r hr => h.sized r (List.mem_cons_of_mem _ hr)
  refine ⟨by rw [← h.len]; simp, ?_, h.same.trans (same_lessq hc ht hR), h.st.round ht hR hL h1⟩
  intro l hl
  rcases List.mem_cons.1 hl with rfl | hl
  · exact ht
  · obtain ⟨a, ha, rfl⟩ := List.mem_map.1 hl
    exact ht.lessq (hR a ha)
theorem Sw.start {n m c F : Nat} {L0 : List Ln} (hs : ∀ l ∈ L0, Sized n m l) (hB : ∀ l ∈ L0, Bd F l) : Sw n m c F L0 L0 := ⟨rfl, hs, Same.refl _, .inl hB⟩

/-- The scan for the least element. -/
structure Scan (c : Nat) (L : List Ln) (i : Nat) (b : Int) (r : Nat) : Prop where
  count : r = nz c (L.take i)
  none : b < 0 → b = -1 ∧ ∀ l ∈ L.take i, at_ c l = 0
  some : 0 ≤ b → b < i ∧ Least c (L.getD b.toNat ([], [])) (L.take i)
theorem Scan.start (c : Nat) (L : List Ln) : Scan c L 0 (-1) 0 := ⟨rfl, fun _ => ⟨rfl, fun l hl => by simp at hl⟩, fun h => by omega⟩
theorem take_succ_getD {L : List Ln} {i : Nat} (hi : i < L.length) : L.take (i + 1) = L.take i ++ [L.getD i ([], [])] := by
  rw [List.take_add_one, List.getD_eq_getElem?_getD, List.getElem?_eq_getElem hi]; rfl
theorem nz_append (c : Nat) (A B : List Ln) : nz c (A ++ B) = nz c A + nz c B := by unfold nz; rw [List.countP_append]
theorem Scan.skip {c : Nat} {L : List Ln} {i : Nat} {b : Int} {r : Nat} (h : Scan c L i b r) (hi : i < L.length) (h0 : at_ c (L.getD i ([], [])) = 0) : Scan c L (i + 1) b r := by
  constructor
  · rw [take_succ_getD hi, nz_append, h.count, nz_zero (L := [_]) (by intro l hl; rw [List.mem_singleton.1 hl]; exact h0)]
    rfl
  · intro hb
    refine ⟨(h.none hb).1, fun l hl => ?_⟩
    rw [take_succ_getD hi] at hl
    rcases List.mem_append.1 hl with hl | hl
    · exact (h.none hb).2 l hl
    · rw [List.mem_singleton.1 hl]; exact h0
  · intro hb
    refine ⟨by have := (h.some hb).1; omega, (h.some hb).2.1, fun l hl hl0 => ?_⟩
    rw [take_succ_getD hi] at hl
    rcases List.mem_append.1 hl with hl | hl
    · exact (h.some hb).2.2 l hl hl0
    · rw [List.mem_singleton.1 hl] at hl0; exact absurd h0 hl0
theorem Scan.take_ {c : Nat} {L : List Ln} {i : Nat} {b : Int} {r : Nat} (h : Scan c L i b r) (hi : i < L.length) (h0 : at_ c (L.getD i ([], [])) ≠ 0)
    (hn : 0 ≤ b → (at_ c (L.getD i ([], []))).natAbs < (at_ c (L.getD b.toNat ([], []))).natAbs) : Scan c L (i + 1) i (r + 1) := by
  constructor
  · rw [take_succ_getD hi, nz_append, h.count, nz_cons _ h0]
    rfl
  · intro hb; omega
  · intro _
    refine ⟨by omega, ?_⟩
    rw [Int.toNat_natCast]
    refine ⟨h0, fun l hl hl0 => ?_⟩
    rw [take_succ_getD hi] at hl
    rcases List.mem_append.1 hl with hl | hl
    · by_cases hb : b < 0
      · exact absurd ((h.none hb).2 l hl) hl0
      · have := hn (by omega)
        have := (h.some (by omega)).2.2 l hl hl0
        omega
    · rw [List.mem_singleton.1 hl]; exact Nat.le_refl _
theorem Scan.keep {c : Nat} {L : List Ln} {i : Nat} {b : Int} {r : Nat} (h : Scan c L i b r) (hi : i < L.length) (h0 : at_ c (L.getD i ([], [])) ≠ 0) (hb0 : 0 ≤ b)
    (hn : ¬ (at_ c (L.getD i ([], []))).natAbs < (at_ c (L.getD b.toNat ([], []))).natAbs) : Scan c L (i + 1) b (r + 1) := by
  constructor
  · rw [take_succ_getD hi, nz_append, h.count, nz_cons _ h0]
    rfl
  · intro hb; omega
  · intro _
    refine ⟨by have := (h.some hb0).1; omega, (h.some hb0).2.1, fun l hl hl0 => ?_⟩
    rw [take_succ_getD hi] at hl
    rcases List.mem_append.1 hl with hl | hl
    · exact (h.some hb0).2.2 l hl hl0
    · rw [List.mem_singleton.1 hl]; omega

/-- What a sweep leaves. -/
structure SwEnd (n m c F : Nat) (L0 L : List Ln) (found : Bool) : Prop where
  len : L.length = L0.length
  sized : ∀ l ∈ L, Sized n m l
  same : Same (rows n L0) (rows n L)
  bd : ∀ l ∈ L, Bd (FB F) l
  no : found = false → ∀ l ∈ L, at_ c l = 0
  yes : found = true → ∃ top R, L = top :: R ∧ at_ c top ≠ 0 ∧ ∀ r ∈ R, at_ c r = 0
end Go.Proofs.YtmfkpmepgbjmkaaGreatDoor.Ln
