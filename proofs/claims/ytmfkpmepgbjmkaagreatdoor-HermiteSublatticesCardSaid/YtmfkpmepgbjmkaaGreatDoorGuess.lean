/-
  PLAIN: the long division, digit by digit (what decimal.pieces' divide does).
-/
import Derived.Test.YtmfkpmepgbjmkaaGreatDoorTake
set_option linter.unusedVariables false
set_option linter.unusedSimpArgs false
namespace Go.Proofs.YtmfkpmepgbjmkaaGreatDoor
open Go.RowKit

theorem far_zero {a : List Int} {k : Nat} (hd : Dig a) (h : val a < B9 ^ k) : ∀ j, k ≤ j → a.getD j 0 = 0 := by
  intro j hj
  obtain ⟨h0, h1⟩ := hd.at_ j
  rcases Int.lt_or_eq_of_le h0 with hp | hp
  · exfalso
    have hjl : j < a.length := by
      rcases Nat.lt_or_ge j a.length with h' | h'
      · exact h'
      · rw [List.getD_eq_getElem?_getD, List.getElem?_eq_none h'] at hp
        exact absurd hp (by decide)
    have e := val_take_drop a j (by omega)
    have e2 := val_nonneg (hd.take j)
    have e3 : val (a.drop j) = a.getD j 0 + 1000000000 * val (a.drop (j + 1)) := val_drop_cons a j hjl
    have e4 := val_nonneg (hd.drop (j + 1))
    have e5 : B9 ^ j * 1 ≤ B9 ^ j * val (a.drop j) := Int.mul_le_mul_of_nonneg_left (by omega) (Int.le_of_lt (pow_pos9 j))
    have e6 := pow_le9 hj
    omega
  · exact hp.symm
theorem lt_of_far {a : List Int} {k : Nat} (hd : Dig a) (h : ∀ j, k ≤ j → a.getD j 0 = 0) : val a < B9 ^ k := by
  rcases Nat.lt_or_ge k a.length with hk | hk
  · have e := val_take_drop a k (by omega)
    have e2 : val (a.drop k) = 0 := val_all_zero (fun d hd => by
      obtain ⟨i, hi, rfl⟩ := List.getElem_of_mem hd
      rw [List.getElem_drop]
      have h3 := h (k + i) (by omega)
      rw [List.getD_eq_getElem?_getD, List.getElem?_eq_getElem (by rw [List.length_drop] at hi; omega)] at h3
      simpa using h3)
    have e3 := val_lt (hd.take k)
    rw [List.length_take, Nat.min_eq_left (by omega)] at e3
    rw [e2, Int.mul_zero] at e
    omega
  · have e3 := val_lt hd
    have e4 := pow_le9 hk
    omega

section
variable {V b lo bl L a2 b1 b2 high g rest : Int}
theorem guess_start (hL : 0 < L) (hV : V = lo + L * (a2 + 1000000000 * high)) (hlo : lo < L) (hb : b = bl + L * (b2 + 1000000000 * b1)) (hbl : 0 ≤ bl) (h2 : 0 ≤ b2) (ha : a2 < 1000000000) (h1 : 0 < b1) (hh : 0 ≤ high) :
    V < (high / b1 + 1) * b := by
  have e := Int.mul_ediv_add_emod high b1
  have e1 := Int.emod_lt_of_pos high h1
  have g0 : 0 ≤ high / b1 := Int.ediv_nonneg hh (Int.le_of_lt h1)
  generalize high / b1 = q at *
  generalize high % b1 = r at *
  have k1 : 0 ≤ (q + 1) * bl := Int.mul_nonneg (by omega) hbl
  have k2 : 0 ≤ L * ((q + 1) * b2) := Int.mul_nonneg (Int.le_of_lt hL) (Int.mul_nonneg (by omega) h2)
  have k3 : L * (1000000000 * (high + 1)) ≤ L * (1000000000 * ((q + 1) * b1)) := by
    apply Int.mul_le_mul_of_nonneg_left _ (Int.le_of_lt hL)
    have : (q + 1) * b1 = b1 * q + b1 := by grind
    omega
  have k4 : L * a2 ≤ L * 999999999 := Int.mul_le_mul_of_nonneg_left (by omega) (Int.le_of_lt hL)
  have x1 : (q + 1) * b = (q + 1) * bl + L * ((q + 1) * b2) + L * (1000000000 * ((q + 1) * b1)) := by rw [hb]; grind
  have x2 : V = lo + L * a2 + L * (1000000000 * high) := by rw [hV]; grind
  have x3 : L * (1000000000 * (high + 1)) = L * (1000000000 * high) + 1000000000 * L := by grind
  have x4 : L * 999999999 = 999999999 * L := by grind
  omega
theorem guess_down1 (hlt : V < b * 1000000000) (hb : 0 ≤ b) (hg : 1000000000 ≤ g) : V < g * b := by
  have : 1000000000 * b ≤ g * b := Int.mul_le_mul_of_nonneg_right hg hb
  omega
theorem guess_down2 (hL : 0 < L) (hV : V = lo + L * (a2 + 1000000000 * high)) (hlo : lo < L) (hb : b = bl + L * (b2 + 1000000000 * b1)) (hbl : 0 ≤ bl) (hg : 0 ≤ g) (he : g * b1 + rest = high) (h : rest * 1000000000 + a2 < g * b2) : V < g * b := by
  have k1 : 0 ≤ g * bl := Int.mul_nonneg hg hbl
  have k2 : L * (rest * 1000000000 + a2 + 1) ≤ L * (g * b2) := Int.mul_le_mul_of_nonneg_left (by omega) (Int.le_of_lt hL)
  have x1 : g * b = g * bl + L * (g * b2) + L * (1000000000 * (g * b1)) := by rw [hb]; grind
  have x2 : V = lo + L * a2 + L * (1000000000 * (g * b1)) + L * (rest * 1000000000) := by rw [hV, ← he]; grind
  have x3 : L * (rest * 1000000000 + a2 + 1) = L * (rest * 1000000000) + L * a2 + L := by grind
  omega
theorem guess_exit (hL : 0 < L) (hV : V = lo + L * (a2 + 1000000000 * high)) (hlo : 0 ≤ lo) (hb : b = bl + L * (b2 + 1000000000 * b1)) (hbl0 : 0 ≤ bl) (hbl : bl < L) (h1 : 0 < b1) (h20 : 0 ≤ b2) (h21 : b2 < 1000000000) (ha0 : 0 ≤ a2) (hg : 0 ≤ g) (hg1 : g < 1000000000)
    (he : g * b1 + rest = high) (h : 1000000000 ≤ rest ∨ g * b2 ≤ rest * 1000000000 + a2) : g * b < V + b := by
  have h' : g * b2 ≤ rest * 1000000000 + a2 := by
    rcases h with h | h
    · have := (mul_range hg hg1 h20 h21).2
      omega
    · exact h
  have k1 : g * bl ≤ g * L := Int.mul_le_mul_of_nonneg_left (by omega) hg
  have k2 : L * (g * b2) ≤ L * (rest * 1000000000 + a2) := Int.mul_le_mul_of_nonneg_left h' (Int.le_of_lt hL)
  have k3 : g * L ≤ 999999999 * L := Int.mul_le_mul_of_nonneg_right (by omega) (Int.le_of_lt hL)
  have k4 : 0 ≤ L * b2 := Int.mul_nonneg (Int.le_of_lt hL) h20
  have k5 : L * 1 ≤ L * b1 := Int.mul_le_mul_of_nonneg_left (by omega) (Int.le_of_lt hL)
  have x1 : g * b = g * bl + L * (g * b2) + L * (1000000000 * (g * b1)) := by rw [hb]; grind
  have x2 : V = lo + L * a2 + L * (1000000000 * (g * b1)) + L * (rest * 1000000000) := by rw [hV, ← he]; grind
  have x3 : L * (rest * 1000000000 + a2) = L * (rest * 1000000000) + L * a2 := by grind
  have x4 : b = bl + L * b2 + 1000000000 * (L * b1) := by rw [hb]; grind
  omega
end

/-- The dividend's and the divisor's heads. -/
theorem head_a {a : List Int} {i n : Nat} (hd : Dig a) (hn : 2 ≤ n) (hz : ∀ j, i + n + 1 ≤ j → a.getD j 0 = 0) :
    val a = val (a.take (i + n - 2)) + B9 ^ (i + n - 2) * (a.getD (i + n - 2) 0 + 1000000000 * (a.getD (i + n) 0 * 1000000000 + a.getD (i + n - 1) 0)) ∧ 0 ≤ val (a.take (i + n - 2)) ∧ val (a.take (i + n - 2)) < B9 ^ (i + n - 2) := by
  refine ⟨?_, val_nonneg (hd.take _), lt_of_far (hd.take _) (fun j hj => by
    rw [List.getD_eq_getElem?_getD, List.getElem?_take_eq_none hj]; rfl)⟩
  have e0 : val a = val (a.take (i + n + 1)) := by
    rcases Nat.lt_or_ge (i + n + 1) a.length with h | h
    · have e := val_take_drop a (i + n + 1) (by omega)
      have e2 : val (a.drop (i + n + 1)) = 0 := val_all_zero (fun d hd => by
        obtain ⟨t, ht, rfl⟩ := List.getElem_of_mem hd
        rw [List.getElem_drop]
        have h3 := hz (i + n + 1 + t) (by omega)
        rw [List.getD_eq_getElem?_getD, List.getElem?_eq_getElem (by rw [List.length_drop] at ht; omega)] at h3
        simpa using h3)
      rw [e2, Int.mul_zero, Int.add_zero] at e
      exact e
    · rw [List.take_of_length_le h]
  obtain ⟨k, rfl⟩ : ∃ k, n = k + 2 := ⟨n - 2, by omega⟩
  rw [e0, show i + (k + 2) + 1 = ((i + k) + 1 + 1) + 1 by omega, val_take_any, val_take_any, val_take_any, show i + (k + 2) - 2 = i + k by omega, show i + (k + 2) - 1 = i + k + 1 by omega, show i + (k + 2) = i + k + 1 + 1 by omega, Int.pow_succ, Int.pow_succ, Int.pow_succ]
  generalize B9 ^ (i + k) = p
  generalize a.getD (i + k) 0 = x0
  generalize a.getD (i + k + 1) 0 = x1
  generalize a.getD (i + k + 1 + 1) 0 = x2
  generalize val (a.take (i + k)) = x3
  show x3 + p * x0 + p * 1000000000 * x1 + p * 1000000000 * 1000000000 * x2 = _
  grind
theorem head_b {b : List Int} {i n : Nat} (hd : Dig b) (hl : b.length = n) (hn : 2 ≤ n) :
    B9 ^ i * val b = B9 ^ i * val (b.take (n - 2)) + B9 ^ (i + n - 2) * (b.getD (n - 2) 0 + 1000000000 * b.getD (n - 1) 0) ∧ 0 ≤ B9 ^ i * val (b.take (n - 2)) ∧ B9 ^ i * val (b.take (n - 2)) < B9 ^ (i + n - 2) := by
  have hp := pow_pos9 i
  have h0 := val_nonneg (hd.take (n - 2))
  have h1 := val_lt (hd.take (n - 2))
  rw [List.length_take, Nat.min_eq_left (by omega)] at h1
  have e1 : B9 ^ (i + n - 2) = B9 ^ i * B9 ^ (n - 2) := by rw [← Int.pow_add]; congr 1; omega
  refine ⟨?_, Int.mul_nonneg (Int.le_of_lt hp) h0, by rw [e1]; exact Int.mul_lt_mul_of_pos_left h1 hp⟩
  have e0 : val b = val (b.take n) := by rw [List.take_of_length_le (by omega)]
  obtain ⟨k, rfl⟩ : ∃ k, n = k + 2 := ⟨n - 2, by omega⟩
  rw [e0, e1, show k + 2 - 2 = k by omega, show k + 2 - 1 = k + 1 by omega, val_take_any, val_take_any, Int.pow_succ]
  generalize B9 ^ k = p
  generalize B9 ^ i = q
  have : B9 = 1000000000 := rfl
  rw [this]
  grind

/-- The digits from place i on are known. -/
structure Dv (la m i : Nat) (V0 : Int) (b a out : List Int) : Prop where
  alen : a.length = la
  olen : out.length = m
  da : Dig a
  do_ : Dig out
  low : ∀ j, j < i → out.getD j 0 = 0
  val : V0 = Go.Proofs.YtmfkpmepgbjmkaaGreatDoor.val b * Go.Proofs.YtmfkpmepgbjmkaaGreatDoor.val out + Go.Proofs.YtmfkpmepgbjmkaaGreatDoor.val a
  lt : Go.Proofs.YtmfkpmepgbjmkaaGreatDoor.val a < B9 ^ i * Go.Proofs.YtmfkpmepgbjmkaaGreatDoor.val b
theorem Dv.far {la m i n : Nat} {V0 : Int} {b a out : List Int} (h : Dv la m (i + 1) V0 b a out) (hb : Dig b) (hl : b.length = n) : ∀ j, i + n + 1 ≤ j → a.getD j 0 = 0 := by
  apply far_zero h.da
  have h1 := val_lt hb
  rw [hl] at h1
  have h2 : B9 ^ (i + 1) * Go.Proofs.YtmfkpmepgbjmkaaGreatDoor.val b < B9 ^ (i + 1) * B9 ^ n := Int.mul_lt_mul_of_pos_left h1 (pow_pos9 _)
  rw [← Int.pow_add, show i + 1 + n = i + n + 1 by omega] at h2
  have := h.lt
  omega
/-- The digit fits at once, .. -/
theorem Dv.hit {la m i n : Nat} {V0 g : Int} {b a o out : List Int} (h : Dv la m (i + 1) V0 b a out) (hi : i < m) (hg0 : 0 ≤ g) (hg1 : g < 1000000000) (hlen : o.length = a.length) (ho : Dig o)
    (hv : Go.Proofs.YtmfkpmepgbjmkaaGreatDoor.val o + B9 ^ i * (g * Go.Proofs.YtmfkpmepgbjmkaaGreatDoor.val b) = Go.Proofs.YtmfkpmepgbjmkaaGreatDoor.val a) (hlt : Go.Proofs.YtmfkpmepgbjmkaaGreatDoor.val a < (g + 1) * (B9 ^ i * Go.Proofs.YtmfkpmepgbjmkaaGreatDoor.val b)) : Dv la m i V0 b o (out.set i g) := by
  refine ⟨hlen.trans h.alen, by rw [List.length_set]; exact h.olen, ho, h.do_.set _ hg0 hg1, fun j hj => by rw [getD_set_ne _ (by omega)]; exact h.low j (by omega), ?_, ?_⟩
  · rw [val_set out i (by rw [h.olen]; exact hi), h.low i (by omega), Int.sub_zero, h.val, ← hv]
    grind
  · have : (g + 1) * (B9 ^ i * Go.Proofs.YtmfkpmepgbjmkaaGreatDoor.val b) = B9 ^ i * (g * Go.Proofs.YtmfkpmepgbjmkaaGreatDoor.val b) + B9 ^ i * Go.Proofs.YtmfkpmepgbjmkaaGreatDoor.val b := by grind
    omega
theorem Dv.pos {la m i n : Nat} {V0 g : Int} {b a o out : List Int} (h : Dv la m (i + 1) V0 b a out) (hb : Dig b) (hl : b.length = n)
    (ho : Dig o) (hfar : ∀ j, i + n + 1 ≤ j → o.getD j 0 = a.getD j 0)
    (hv : Go.Proofs.YtmfkpmepgbjmkaaGreatDoor.val o + B9 ^ i * (g * Go.Proofs.YtmfkpmepgbjmkaaGreatDoor.val b) = Go.Proofs.YtmfkpmepgbjmkaaGreatDoor.val a + B9 ^ (i + (n + 1))) : 0 < g := by
  have hz := h.far hb hl
  have hW : Go.Proofs.YtmfkpmepgbjmkaaGreatDoor.val o < B9 ^ (i + n + 1) := lt_of_far ho (fun j hj => by rw [hfar j hj]; exact hz j hj)
  rw [show i + (n + 1) = i + n + 1 by omega] at hv
  have ha := val_nonneg h.da
  have e1 : B9 ^ i * (g * Go.Proofs.YtmfkpmepgbjmkaaGreatDoor.val b) = g * (B9 ^ i * Go.Proofs.YtmfkpmepgbjmkaaGreatDoor.val b) := by grind
  rw [e1] at hv
  rcases Int.lt_or_le 0 g with h' | h'
  · exact h'
  · exfalso
    have : g * (B9 ^ i * Go.Proofs.YtmfkpmepgbjmkaaGreatDoor.val b) ≤ 0 * (B9 ^ i * Go.Proofs.YtmfkpmepgbjmkaaGreatDoor.val b) := Int.mul_le_mul_of_nonneg_right h' (Int.mul_nonneg (Int.le_of_lt (pow_pos9 i)) (val_nonneg hb))
    omega
/-- .. or it was one too great. -/
theorem Dv.miss {la m i n : Nat} {V0 g c : Int} {b a o o2 out : List Int} (h : Dv la m (i + 1) V0 b a out) (hb : Dig b) (hl : b.length = n) (hi : i < m) (hg1 : g < 1000000000)
    (hlen : o.length = a.length) (ho : Dig o) (hfar : ∀ j, i + n + 1 ≤ j → o.getD j 0 = a.getD j 0)
    (hv : Go.Proofs.YtmfkpmepgbjmkaaGreatDoor.val o + B9 ^ i * (g * Go.Proofs.YtmfkpmepgbjmkaaGreatDoor.val b) = Go.Proofs.YtmfkpmepgbjmkaaGreatDoor.val a + B9 ^ (i + (n + 1)))
    (hlen2 : o2.length = o.length) (ho2 : Dig o2) (hfar2 : ∀ j, i + n + 1 ≤ j → o2.getD j 0 = o.getD j 0)
    (hv2 : Go.Proofs.YtmfkpmepgbjmkaaGreatDoor.val o2 + B9 ^ (i + (n + 1)) * c = Go.Proofs.YtmfkpmepgbjmkaaGreatDoor.val o + B9 ^ i * Go.Proofs.YtmfkpmepgbjmkaaGreatDoor.val b) (hc0 : 0 ≤ c) (hc1 : c ≤ 1)
    (hex : g * (B9 ^ i * Go.Proofs.YtmfkpmepgbjmkaaGreatDoor.val b) < Go.Proofs.YtmfkpmepgbjmkaaGreatDoor.val a + B9 ^ i * Go.Proofs.YtmfkpmepgbjmkaaGreatDoor.val b) : Dv la m i V0 b o2 (out.set i (g - 1)) ∧ 0 < g := by
  have hz := h.far hb hl
  have hW : Go.Proofs.YtmfkpmepgbjmkaaGreatDoor.val o < B9 ^ (i + n + 1) := lt_of_far ho (fun j hj => by rw [hfar j hj]; exact hz j hj)
  have hW2 : Go.Proofs.YtmfkpmepgbjmkaaGreatDoor.val o2 < B9 ^ (i + n + 1) := lt_of_far ho2 (fun j hj => by rw [hfar2 j hj, hfar j hj]; exact hz j hj)
  rw [show i + (n + 1) = i + n + 1 by omega] at hv hv2
  have ha := val_nonneg h.da
  have hvb := val_nonneg hb
  have hpi := pow_pos9 i
  have ho0 := val_nonneg ho2
  have e1 : B9 ^ i * (g * Go.Proofs.YtmfkpmepgbjmkaaGreatDoor.val b) = g * (B9 ^ i * Go.Proofs.YtmfkpmepgbjmkaaGreatDoor.val b) := by grind
  rw [e1] at hv
  have hg : 0 < g := by
    rcases Int.lt_or_le 0 g with h' | h'
    · exact h'
    · exfalso
      have : g * (B9 ^ i * Go.Proofs.YtmfkpmepgbjmkaaGreatDoor.val b) ≤ 0 * (B9 ^ i * Go.Proofs.YtmfkpmepgbjmkaaGreatDoor.val b) := Int.mul_le_mul_of_nonneg_right h' (Int.mul_nonneg (Int.le_of_lt hpi) hvb)
      omega
  have hc : c = 1 := by
    rcases Int.lt_or_le c 1 with h' | h'
    · exfalso
      have : c = 0 := by omega
      subst this
      rw [Int.mul_zero] at hv2
      omega
    · omega
  subst hc
  rw [Int.mul_one] at hv2
  have e2 : Go.Proofs.YtmfkpmepgbjmkaaGreatDoor.val o2 + (g * (B9 ^ i * Go.Proofs.YtmfkpmepgbjmkaaGreatDoor.val b) - B9 ^ i * Go.Proofs.YtmfkpmepgbjmkaaGreatDoor.val b) = Go.Proofs.YtmfkpmepgbjmkaaGreatDoor.val a := by omega
  refine ⟨⟨hlen2.trans (hlen.trans h.alen), by rw [List.length_set]; exact h.olen, ho2, h.do_.set _ (by omega) (by omega), fun j hj => by rw [getD_set_ne _ (by omega)]; exact h.low j (by omega), ?_, by omega⟩, hg⟩
  rw [val_set out i (by rw [h.olen]; exact hi), h.low i (by omega), Int.sub_zero, h.val, ← e2]
  grind
theorem Dv.start {n m : Nat} {b a : List Int} (hn : 1 ≤ n) (hb : Dig b) (hl : b.length = n) (ht : Top b) (ha : Dig a) (hal : a.length = m + n) (hz : a.getD (m + n - 1) 0 = 0) : Dv (m + n) m m (Go.Proofs.YtmfkpmepgbjmkaaGreatDoor.val a) b a (List.replicate m 0) := by
  refine ⟨hal, by simp, ha, Dig.zeros _, fun j _ => by rw [List.getD_eq_getElem?_getD, List.getElem?_replicate]; split <;> rfl, by rw [val_zeros]; simp, ?_⟩
  have h1 : Go.Proofs.YtmfkpmepgbjmkaaGreatDoor.val a < B9 ^ (m + n - 1) := lt_of_far ha (fun j hj => by
    rcases Nat.lt_or_ge j (m + n) with h | h
    · rw [show j = m + n - 1 by omega]; exact hz
    · rw [List.getD_eq_getElem?_getD, List.getElem?_eq_none (by omega)]; rfl)
  have h2 : B9 ^ (n - 1) ≤ Go.Proofs.YtmfkpmepgbjmkaaGreatDoor.val b := by
    rcases ht with h | h
    · rw [h] at hl; simp at hl; omega
    · have := val_top hb h (by omega)
      rw [hl] at this
      exact this
  have h3 : B9 ^ m * B9 ^ (n - 1) ≤ B9 ^ m * Go.Proofs.YtmfkpmepgbjmkaaGreatDoor.val b := Int.mul_le_mul_of_nonneg_left h2 (Int.le_of_lt (pow_pos9 m))
  rw [← Int.pow_add, show m + (n - 1) = m + n - 1 by omega] at h3
  omega
end Go.Proofs.YtmfkpmepgbjmkaaGreatDoor
