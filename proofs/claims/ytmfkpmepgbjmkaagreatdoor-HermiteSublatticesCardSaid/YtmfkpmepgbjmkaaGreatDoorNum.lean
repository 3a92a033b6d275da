/-
  PLAIN FACTS ON NUMERALS: the text of an integer, its sign, what parsing it gives.
-/
import Derived.Lib.ItoaNum
import Derived.Lib.AtoiAllCases
import Derived.Lib.ParseIntBTie
set_option linter.unusedVariables false
set_option linter.unusedSimpArgs false
namespace Go.Proofs.YtmfkpmepgbjmkaaGreatDoor
open Go.Lib

/-- The text of an integer. -/
def tx (a : Int) : ByteArray := ⟨(itoa a).toArray⟩
/-- The text of a natural number. -/
def tn (u : Nat) : ByteArray := ⟨(decDigits u).toArray⟩

theorem tx_nat (u : Nat) : tx (u : Int) = tn u := by
  unfold tx tn itoa
  rw [if_neg (by omega)]
  simp
theorem tx_neg (u : Nat) (h : 0 < u) : itoa (-(u : Int)) = 45 :: decDigits u := by
  unfold itoa
  rw [if_pos (by omega)]
  simp

theorem byte_toNat (c : Nat) (h : c < 10) : (UInt8.ofNat (48 + c)).toNat = 48 + c := by
  rw [UInt8.toNat_ofNat']
  omega

/-- A numeral is not empty, and all of its bytes are digits. -/
theorem dec_ne (u : Nat) : decDigits u ≠ [] := by
  rw [decDigits]
  split <;> simp
theorem dec_digit (u : Nat) : ∀ c ∈ decDigits u, 48 ≤ c.toNat ∧ c.toNat ≤ 57 := by
  induction u using Nat.strongRecOn with
  | _ u ih =>
    intro c hc
    rw [decDigits] at hc
    split at hc
    · rw [List.mem_singleton.1 hc, byte_toNat u (by omega)]
      omega
    · rcases List.mem_append.1 hc with hc | hc
      · exact ih (u / 10) (by omega) c hc
      · rw [List.mem_singleton.1 hc, byte_toNat _ (by omega)]
        omega

/-- The number that digits spell, behind what the digits before spell. -/
def spell (acc : Nat) : List UInt8 → Nat
  | [] => acc
  | c :: r => spell (acc * 10 + (c.toNat - 48)) r
theorem spell_append (l r : List UInt8) : ∀ acc, spell acc (l ++ r) = spell (spell acc l) r := by
  induction l with
  | nil => intro acc; rfl
  | cons c l ih => intro acc; exact ih _
theorem spell_dec (u : Nat) : spell 0 (decDigits u) = u := by
  induction u using Nat.strongRecOn with
  | _ u ih =>
    rw [decDigits]
    split
    · show 0 * 10 + ((UInt8.ofNat (48 + u)).toNat - 48) = u
      rw [byte_toNat u (by omega)]
      omega
    · rw [spell_append, ih (u / 10) (by omega)]
      show u / 10 * 10 + ((UInt8.ofNat (48 + u % 10)).toNat - 48) = u
      rw [byte_toNat _ (by omega)]
      omega
theorem dec_inj {u v : Nat} (h : decDigits u = decDigits v) : u = v := by
  rw [← spell_dec u, ← spell_dec v, h]
theorem spell_ge (l : List UInt8) : ∀ acc, acc ≤ spell acc l := by
  induction l with
  | nil => intro acc; exact Nat.le_refl _
  | cons c l ih =>
    intro acc
    have := ih (acc * 10 + (c.toNat - 48))
    show acc ≤ spell (acc * 10 + (c.toNat - 48)) l
    omega
/-- What parsing digits gives. -/
theorem parse_spell (l : List UInt8) (hd : ∀ c ∈ l, 48 ≤ c.toNat ∧ c.toNat ≤ 57) : ∀ acc, acc < 18446744073709551616 → parseUint10 acc l = if spell acc l < 18446744073709551616 then .ok (spell acc l) else .range := by
  induction l with
  | nil =>
    intro acc h
    show NumEnd.ok acc = if acc < 18446744073709551616 then NumEnd.ok acc else NumEnd.range
    rw [if_pos h]
  | cons c l ih =>
    intro acc h
    have hc := hd c (List.mem_cons_self ..)
    have hg := spell_ge l (acc * 10 + (c.toNat - 48))
    show (if 48 ≤ c.toNat ∧ c.toNat ≤ 57 then if 1844674407370955162 ≤ acc then NumEnd.range else if 18446744073709551616 ≤ acc * 10 + (c.toNat - 48) then NumEnd.range else parseUint10 (acc * 10 + (c.toNat - 48)) l else NumEnd.syntax) = if spell (acc * 10 + (c.toNat - 48)) l < 18446744073709551616 then NumEnd.ok (spell (acc * 10 + (c.toNat - 48)) l) else NumEnd.range
    rw [if_pos hc]
    by_cases h1 : 1844674407370955162 ≤ acc
    · rw [if_pos h1, if_neg (by omega)]
    · rw [if_neg h1]
      by_cases h2 : 18446744073709551616 ≤ acc * 10 + (c.toNat - 48)
      · rw [if_pos h2, if_neg (by omega)]
      · rw [if_neg h2]
        exact ih (fun c hc => hd c (List.mem_cons_of_mem _ hc)) _ (by omega)
theorem parseMag_dec (u : Nat) : parseMag (decDigits u) = if u < 18446744073709551616 then .ok u else .range := by
  unfold parseMag
  rw [if_neg (dec_ne u), parse_spell _ (dec_digit u) 0 (by omega), spell_dec]

theorem dec_head (u : Nat) : ∃ c r, decDigits u = c :: r ∧ 48 ≤ c.toNat ∧ c.toNat ≤ 57 := by
  cases h : decDigits u with
  | nil => exact absurd h (dec_ne u)
  | cons c r =>
    have := dec_digit u c (by rw [h]; exact List.mem_cons_self ..)
    exact ⟨c, r, rfl, this⟩
theorem dec_head_pos (u : Nat) (hu : 0 < u) : ∃ c r, decDigits u = c :: r ∧ 49 ≤ c.toNat ∧ c.toNat ≤ 57 := by
  induction u using Nat.strongRecOn with
  | _ u ih =>
    rw [decDigits]
    split
    · exact ⟨_, _, rfl, by rw [byte_toNat u (by omega)]; omega, by rw [byte_toNat u (by omega)]; omega⟩
    · obtain ⟨c, r, e, h1, h2⟩ := ih (u / 10) (by omega) (by omega)
      exact ⟨c, r ++ [UInt8.ofNat (48 + u % 10)], by rw [e]; rfl, h1, h2⟩

/-- strconv.Atoi of an int's numeral. -/
theorem atoi_itoa (a : Int) (h0 : -9223372036854775808 ≤ a) (h1 : a ≤ 9223372036854775807) : atoiAll (itoa a) = .ok a := by
  unfold itoa
  by_cases h : a < 0
  · rw [if_pos h, atoiAll_minus, parseMag_dec, if_pos (by omega)]
    show (if 9223372036854775808 < a.natAbs then NumEnd.range else NumEnd.ok (-(a.natAbs : Int))) = NumEnd.ok a
    rw [if_neg (by omega)]
    congr 1
    omega
  · rw [if_neg h]
    obtain ⟨c, r, e, hc1, hc2⟩ := dec_head a.toNat
    rw [e, atoiAll_plain c r (by omega) (by omega), ← e, parseMag_dec, if_pos (by omega)]
    show (if 9223372036854775808 ≤ a.toNat then NumEnd.range else NumEnd.ok (a.toNat : Int)) = NumEnd.ok a
    rw [if_neg (by omega)]
    congr 1
    omega
/-- .. of a greater number. -/
theorem atoi_far (a : Int) (h : a < -9223372036854775808 ∨ 9223372036854775807 < a) : atoiAll (itoa a) = .range := by
  unfold itoa
  by_cases hn : a < 0
  · rw [if_pos hn, atoiAll_minus, parseMag_dec]
    by_cases hu : a.natAbs < 18446744073709551616
    · rw [if_pos hu]
      show (if 9223372036854775808 < a.natAbs then NumEnd.range else NumEnd.ok (-(a.natAbs : Int))) = NumEnd.range
      rw [if_pos (by omega)]
    · rw [if_neg hu]
      rfl
  · rw [if_neg hn]
    obtain ⟨c, r, e, hc1, hc2⟩ := dec_head a.toNat
    rw [e, atoiAll_plain c r (by omega) (by omega), ← e, parseMag_dec]
    by_cases hu : a.toNat < 18446744073709551616
    · rw [if_pos hu]
      show (if 9223372036854775808 ≤ a.toNat then NumEnd.range else NumEnd.ok (a.toNat : Int)) = NumEnd.range
      rw [if_pos (by omega)]
    · rw [if_neg hu]
      rfl

theorem tx_list (a : Int) : (tx a).data.toList = itoa a := rfl
theorem tx_toList (a : Int) : (tx a).toList = itoa a := by
  rw [ByteArray.toList_eq]
  rfl
theorem itoa_inj {a b : Int} (h : itoa a = itoa b) : a = b := by
  unfold itoa at h
  by_cases ha : a < 0 <;> by_cases hb : b < 0 <;> simp only [ha, hb, if_true, if_false] at h
  · injection h with _ h
    have := dec_inj h
    omega
  · obtain ⟨c, r, e, h1, h2⟩ := dec_head b.toNat
    rw [e] at h
    injection h with h _
    rw [← h] at h1
    exact absurd h1 (by decide)
  · obtain ⟨c, r, e, h1, h2⟩ := dec_head a.toNat
    rw [e] at h
    injection h with h _
    rw [h] at h1
    exact absurd h1 (by decide)
  · have := dec_inj h
    omega
theorem tx_inj {a b : Int} : tx a = tx b ↔ a = b :=
  ⟨fun h => itoa_inj (by rw [← tx_list a, ← tx_list b, h]), fun h => by rw [h]⟩
theorem itoa_zero : itoa 0 = [48] := by decide +kernel
theorem itoa_one : itoa 1 = [49] := by decide +kernel
/-- Is it 0? As the walk asks. -/
theorem tx_eq_zero (a : Int) : ((tx a).toList == [48]) = decide (a = 0) := by
  rw [tx_toList, Bool.eq_iff_iff, beq_iff_eq, decide_eq_true_eq, ← itoa_zero]
  exact ⟨itoa_inj, fun h => by rw [h]⟩
theorem tx_eq_one (a : Int) : ((tx a).toList == [49]) = decide (a = 1) := by
  rw [tx_toList, Bool.eq_iff_iff, beq_iff_eq, decide_eq_true_eq, ← itoa_one]
  exact ⟨itoa_inj, fun h => by rw [h]⟩
theorem tx_eq (a b : Int) : ((tx a).toList == (tx b).toList) = decide (a = b) := by
  rw [tx_toList, tx_toList, Bool.eq_iff_iff, beq_iff_eq, decide_eq_true_eq]
  exact ⟨itoa_inj, fun h => by rw [h]⟩

/-- A number's size in digits. -/
theorem nDigits_le (k u : Nat) (h : u < 10 ^ k) (hk : 1 ≤ k) : nDigits u ≤ k := by
  induction k generalizing u with
  | zero => omega
  | succ k ih =>
    by_cases hu : u < 10
    · rw [nDigits_small hu]
      omega
    · rw [nDigits_big hu]
      have hk' : 1 ≤ k := by
        rcases Nat.eq_zero_or_pos k with h0 | h0
        · subst h0; simp at h; omega
        · exact h0
      have := ih (u / 10) (by rw [Nat.pow_succ] at h; omega) hk'
      omega
theorem tx_size (a : Int) : (tx a).size = (itoa a).length := by
  show (itoa a).toArray.size = _
  simp
theorem tn_size (u : Nat) : (tn u).size = nDigits u := by
  show (decDigits u).toArray.size = _
  rw [List.size_toArray, decDigits_length]
end Go.Proofs.YtmfkpmepgbjmkaaGreatDoor
