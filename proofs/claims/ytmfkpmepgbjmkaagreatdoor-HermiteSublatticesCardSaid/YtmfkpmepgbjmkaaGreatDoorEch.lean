/-
  PLAIN MATHEMATICS: an echelon, column by column.
-/
import Derived.Test.YtmfkpmepgbjmkaaGreatDoorSw
set_option linter.unusedVariables false
set_option linter.unusedSimpArgs false
namespace Go.Proofs.YtmfkpmepgbjmkaaGreatDoor.Ln
open Go.Proofs.YtmfkpmepgbjmkaaGreatDoor.Hnf

def GB (F : Nat) : Nat := (F + 1) * FB F
theorem FB_le_GB (F : Nat) : FB F ≤ GB F := Nat.le_mul_of_pos_left _ (by omega)
theorem F_le_GB (F : Nat) : F ≤ GB F := Nat.le_trans (F_le_FB F) (FB_le_GB F)
theorem pw (D : Nat) : 0 < 10 ^ D := Nat.pow_pos (by decide)
theorem FB_pow {F P : Nat} (h : F + 1 ≤ P) : FB F ≤ 8 * (P * ((P * P) * (P * P) * (P * P))) := by
  have h0 : F ≤ P := by omega
  have h1 : F + 2 ≤ 2 * P := by omega
  have h2 : F * F ≤ P * P := Nat.mul_le_mul h0 h0
  have h3 : TB F ≤ 2 * (P * ((P * P) * (P * P) * (P * P))) := by
    have h4 : TB F ≤ P * (2 * P) * P * ((P * P) * (P * P)) := Nat.mul_le_mul (Nat.mul_le_mul (Nat.mul_le_mul h0 h1) h0) (Nat.mul_le_mul h2 h2)
    have e : P * (2 * P) * P * ((P * P) * (P * P)) = 2 * (P * ((P * P) * (P * P) * (P * P))) := by
      simp only [Nat.mul_assoc, Nat.mul_left_comm, Nat.mul_comm]
    omega
  have h5 : F * (F + 2) ≤ P * (2 * P) := Nat.mul_le_mul h0 h1
  have h6 : 0 < P := by omega
  have h7 : P * (2 * P) ≤ 2 * (P * ((P * P) * (P * P) * (P * P))) := by
    have h8 := le_mul_pos (P * P) (show 0 < P * ((P * P) * (P * P)) from Nat.mul_pos h6 (Nat.mul_pos (Nat.mul_pos h6 h6) (Nat.mul_pos h6 h6)))
    have e : P * P * (P * ((P * P) * (P * P))) = P * ((P * P) * (P * P) * (P * P)) := by
      simp only [Nat.mul_assoc, Nat.mul_left_comm, Nat.mul_comm]
    have e2 : P * (2 * P) = 2 * (P * P) := by simp only [Nat.mul_left_comm]
    omega
  unfold FB
  omega
theorem pow7 (D : Nat) : 10 ^ D * ((10 ^ D * 10 ^ D) * (10 ^ D * 10 ^ D) * (10 ^ D * 10 ^ D)) = 10 ^ (7 * D) := by
  simp only [← Nat.pow_add]
  congr 1
  omega
theorem FB_lt {F D : Nat} (h : F < 10 ^ D) : FB F < 10 ^ (7 * D + 1) := by
  have h1 := FB_pow (show F + 1 ≤ 10 ^ D from h)
  rw [pow7] at h1
  rw [Nat.pow_succ]
  have := pw (7 * D)
  omega
theorem GB_lt {F D : Nat} (h : F < 10 ^ D) : GB F < 10 ^ (8 * D + 1) := by
  have h1 := FB_pow (show F + 1 ≤ 10 ^ D from h)
  rw [pow7] at h1
  have h2 : GB F ≤ 10 ^ D * (8 * 10 ^ (7 * D)) := Nat.mul_le_mul h h1
  have e : 10 ^ D * (8 * 10 ^ (7 * D)) = 8 * 10 ^ (8 * D) := by
    rw [Nat.mul_left_comm, ← Nat.pow_add]
    congr 2
    omega
  rw [Nat.pow_succ]
  have := pw (8 * D)
  omega

/-- Digits and bounds behind c columns. -/
def dg : Nat → Nat → Nat
  | 0, D => D
  | c + 1, D => 8 * dg c D + 1
def gb : Nat → Nat → Nat
  | 0, F => F
  | c + 1, F => GB (gb c F)
theorem gb_lt {F D : Nat} (h : F < 10 ^ D) (c : Nat) : gb c F < 10 ^ (dg c D) := by
  induction c with
  | zero => exact h
  | succ c ih => exact GB_lt ih
theorem dg_mono {c d : Nat} (h : c ≤ d) (D : Nat) : dg c D ≤ dg d D := by
  induction d with
  | zero => obtain rfl : c = 0 := by omega
            exact Nat.le_refl _
  | succ d ih =>
    by_cases hc : c ≤ d
    · have := ih hc
      show dg c D ≤ 8 * dg d D + 1
      omega
    · obtain rfl : c = d + 1 := by omega
      exact Nat.le_refl _
theorem dg_pos {D : Nat} (hD : 1 ≤ D) (c : Nat) : 1 ≤ dg c D := Nat.le_trans hD (dg_mono (Nat.zero_le c) D)

/-- Where an echelon stands ahead of column c: D is done, R the rest. -/
structure Ech (n m c G : Nat) (L0 D R : List Ln) : Prop where
  len : (D ++ R).length = L0.length
  sized : ∀ l ∈ D ++ R, Sized n m l
  same : Same (rows n L0) (rows n (D ++ R))
  bd : ∀ l ∈ D ++ R, Bd G l
  form : FormU c 0 (rows n D)
  zero : ∀ r ∈ R, ∀ j, j < c → at_ j r = 0
theorem Ech.start {n m G : Nat} {L0 : List Ln} (hs : ∀ l ∈ L0, Sized n m l) (hb : ∀ l ∈ L0, Bd G l) : Ech n m 0 G L0 [] L0 :=
  ⟨rfl, hs, Same.refl _, hb, trivial, fun _ _ j hj => by omega⟩
theorem rows_append (n : Nat) (A B : List Ln) : rows n (A ++ B) = rows n A ++ rows n B := List.map_append
theorem Ech.rest {n m c G : Nat} {L0 D R : List Ln} (h : Ech n m c G L0 D R) : (∀ l ∈ R, Sized n m l) ∧ ∀ l ∈ R, Bd G l :=
  ⟨fun l hl => h.sized l (List.mem_append_right _ hl), fun l hl => h.bd l (List.mem_append_right _ hl)⟩
/-- Behind the sweep. -/
theorem Ech.swept {n m c G : Nat} {L0 D R R' : List Ln} {f : Bool} (hc : c ≤ n) (h : Ech n m c G L0 D R) (hS : SwEnd n m c G R R' f) : Ech n m c (FB G) L0 D R' := by
  refine ⟨?_, ?_, ?_, ?_, h.form, ?_⟩
  · rw [List.length_append, hS.len, ← List.length_append]; exact h.len
  · intro l hl
    rcases List.mem_append.1 hl with hl | hl
    · exact h.sized l (List.mem_append_left _ hl)
    · exact hS.sized l hl
  · refine h.same.trans ?_
    rw [rows_append, rows_append]
    exact hS.same.append_left _
  · intro l hl
    rcases List.mem_append.1 hl with hl | hl
    · exact (h.bd l (List.mem_append_left _ hl)).mono (F_le_FB G)
    · exact hS.bd l hl
  · intro r hr j hj
    have := vanish_of_same (j := j) hS.same (fun a ha => by rw [row_at a (by omega)]; exact h.zero a ha j hj) r hr
    rw [row_at r (by omega)] at this
    exact this
theorem Ech.miss {n m c G : Nat} {L0 D R : List Ln} (h : Ech n m c G L0 D R) (h0 : ∀ l ∈ R, at_ c l = 0) : Ech n m (c + 1) G L0 D R :=
  ⟨h.len, h.sized, h.same, h.bd, h.form.mono (by omega), fun r hr j hj => by
    by_cases hjc : j = c
    · subst hjc; exact h0 r hr
    · exact h.zero r hr j (by omega)⟩
theorem Ech.more {n m c G G' : Nat} {L0 D R : List Ln} (hG : G ≤ G') (h : Ech n m c G L0 D R) : Ech n m c G' L0 D R :=
  ⟨h.len, h.sized, h.same, fun l hl => (h.bd l hl).mono hG, h.form, h.zero⟩
theorem Ech.turned {n m c G : Nat} {L0 D R : List Ln} {top : Ln} (h : Ech n m c G L0 D (top :: R)) : Ech n m c G L0 D (turn top :: R) := by
  refine ⟨by have := h.len; simpa using this, ?_, ?_, ?_, h.form, ?_⟩
  · intro l hl
    rcases List.mem_append.1 hl with hl | hl
    · exact h.sized l (List.mem_append_left _ hl)
    · rcases List.mem_cons.1 hl with rfl | hl
      · exact (h.sized top (List.mem_append_right _ (List.mem_cons_self ..))).turn
      · exact h.sized l (List.mem_append_right _ (List.mem_cons_of_mem _ hl))
  · refine h.same.trans ?_
    rw [rows_append, rows_append]
    exact (same_turn n top R).append_left _
  · intro l hl
    rcases List.mem_append.1 hl with hl | hl
    · exact h.bd l (List.mem_append_left _ hl)
    · rcases List.mem_cons.1 hl with rfl | hl
      · exact (h.bd top (List.mem_append_right _ (List.mem_cons_self ..))).turn
      · exact h.bd l (List.mem_append_right _ (List.mem_cons_of_mem _ hl))
  · intro r hr j hj
    rcases List.mem_cons.1 hr with rfl | hr
    · have := h.zero top (List.mem_cons_self ..) j hj
      unfold at_ turn at *
      rw [neg_getD, this]
      rfl
    · exact h.zero r (List.mem_cons_of_mem _ hr) j hj
theorem Ech.hit {n m c G F : Nat} {L0 D R : List Ln} {top : Ln} (hc : c < n) (hDF : ∀ l ∈ D, Bd F l) (hGF : G = FB F) (h : Ech n m c G L0 D (top :: R)) (hp : 0 < at_ c top) (h0 : ∀ r ∈ R, at_ c r = 0) :
    Ech n m (c + 1) (GB F) L0 (D.map (lessq c top) ++ [top]) R := by
  have ht : Sized n m top := h.sized top (List.mem_append_right _ (List.mem_cons_self ..))
  have hD : ∀ r ∈ D, Sized n m r := fun r hr => h.sized r (List.mem_append_left _ hr)
  have hbt : Bd G top := h.bd top (List.mem_append_right _ (List.mem_cons_self ..))
  have hab := same_above (c := c) hc ht hD
  have e : (D.map fun r => less (r.1.getD c 0 / top.1.getD c 0) r top) = D.map (lessq c top) := by
    apply List.map_congr_left
    intro r _
    unfold lessq fq
    rw [if_pos hp]
    rfl
  rw [e] at hab
  refine ⟨?_, ?_, ?_, ?_, ?_, ?_⟩
  · have := h.len; simpa using this
  · intro l hl
    rcases List.mem_append.1 hl with hl | hl
    · rcases List.mem_append.1 hl with hl | hl
      · obtain ⟨r, hr, rfl⟩ := List.mem_map.1 hl
        exact ht.lessq (hD r hr)
      · rw [List.mem_singleton.1 hl]; exact ht
    · exact h.sized l (List.mem_append_right _ (List.mem_cons_of_mem _ hl))
  · refine h.same.trans ?_
    have e2 : D ++ top :: R = (D ++ [top]) ++ R := by simp
    rw [e2, rows_append, rows_append n (_ ++ [top])]
    exact hab.1.append_right _
  · intro l hl
    rcases List.mem_append.1 hl with hl | hl
    · rcases List.mem_append.1 hl with hl | hl
      · obtain ⟨r, hr, rfl⟩ := List.mem_map.1 hl
        refine ((hDF r hr).less (k := fq (at_ c r) (at_ c top)) hbt).mono ?_
        have h1 : (fq (at_ c r) (at_ c top)).natAbs ≤ F := Nat.le_trans (fq_abs (by omega)) ((hDF r hr).at_ c)
        have h2 := Nat.mul_le_mul_right G h1
        have h3 := F_le_FB F
        unfold GB
        rw [Nat.add_mul, ← hGF]
        omega
      · rw [List.mem_singleton.1 hl]; exact hbt.mono (hGF ▸ FB_le_GB F)
    · exact (h.bd l (List.mem_append_right _ (List.mem_cons_of_mem _ hl))).mono (hGF ▸ FB_le_GB F)
  · exact hab.2 hp (fun j hj => h.zero top (List.mem_cons_self ..) j hj) h.form
  · intro r hr j hj
    by_cases hjc : j = c
    · subst hjc; exact h0 r hr
    · exact h.zero r (List.mem_cons_of_mem _ hr) j (by omega)
end Go.Proofs.YtmfkpmepgbjmkaaGreatDoor.Ln
