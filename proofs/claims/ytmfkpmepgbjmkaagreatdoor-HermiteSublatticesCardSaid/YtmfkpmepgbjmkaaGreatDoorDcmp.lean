/-
  WALKS: decimal.Compare.
-/
import Derived.Test.YtmfkpmepgbjmkaaGreatDoorZeros
set_option linter.unusedVariables false
set_option linter.unusedSimpArgs false
namespace Go.Proofs.YtmfkpmepgbjmkaaGreatDoor
open Go.RowKit

theorem u8_lt (a b : UInt8) : (a < b) = (a.toNat < b.toNat) := rfl
theorem bytesLess_spell (l : List UInt8) : ∀ r : List UInt8, l.length = r.length → (∀ c ∈ l, 48 ≤ c.toNat ∧ c.toNat ≤ 57) → (∀ c ∈ r, 48 ≤ c.toNat ∧ c.toNat ≤ 57) → Op.bytesLess l r = decide (spell 0 l < spell 0 r) := by
  induction l with
  | nil =>
    intro r hl _ _
    cases r with
    | nil => rfl
    | cons c r => simp at hl
  | cons a l ih =>
    intro r hl h1 h2
    cases r with
    | nil => simp at hl
    | cons b r =>
      have hlr : l.length = r.length := by simpa using hl
      have ihr := ih r hlr (fun c hc => h1 c (List.mem_cons_of_mem _ hc)) (fun c hc => h2 c (List.mem_cons_of_mem _ hc))
      have la := spell_lt l (fun c hc => h1 c (List.mem_cons_of_mem _ hc))
      have lb := spell_lt r (fun c hc => h2 c (List.mem_cons_of_mem _ hc))
      have da := h1 a (List.mem_cons_self ..)
      have db := h2 b (List.mem_cons_self ..)
      rw [spell_cons, spell_cons, spell_acc l, spell_acc r, hlr]
      rw [hlr] at la
      show (decide (a < b) || (a == b && Op.bytesLess l r)) = _
      rw [ihr]
      generalize spell 0 l = x at *
      generalize spell 0 r = y at *
      generalize 10 ^ r.length = p at *
      rcases Nat.lt_trichotomy a.toNat b.toNat with h | h | h
      · have e1 : decide (a < b) = true := decide_eq_true h
        rw [e1, Bool.true_or]
        symm
        apply decide_eq_true
        have : (0 * 10 + (a.toNat - 48) + 1) * p ≤ (0 * 10 + (b.toNat - 48)) * p := Nat.mul_le_mul_right _ (by omega)
        rw [Nat.add_mul] at this
        omega
      · have e : a = b := UInt8.toNat_inj.1 h
        subst e
        have e1 : decide (a < a) = false := decide_eq_false (by rw [u8_lt]; omega)
        rw [e1, Bool.false_or, beq_self_eq_true, Bool.true_and]
        congr 1
        apply propext
        omega
      · have e1 : decide (a < b) = false := decide_eq_false (by rw [u8_lt]; omega)
        have e2 : (a == b) = false := by
          rw [beq_eq_false_iff_ne]
          intro e
          subst e
          omega
        rw [e1, e2, Bool.false_or, Bool.false_and]
        symm
        apply decide_eq_false
        have : (0 * 10 + (b.toNat - 48) + 1) * p ≤ (0 * 10 + (a.toNat - 48)) * p := Nat.mul_le_mul_right _ (by omega)
        rw [Nat.add_mul] at this
        omega
theorem tn_toList (u : Nat) : (tn u).toList = Lib.decDigits u := by
  rw [← tx_nat, tx_toList]
  have := tx_list (u : Int)
  rw [tx_nat] at this
  exact this.symm
theorem tn_less {u v : Nat} (h : (tn u).size = (tn v).size) : Op.bytesLess (tn u).toList (tn v).toList = decide (u < v) := by
  rw [tn_toList, tn_toList, bytesLess_spell _ _ (by rw [tn_size, tn_size] at h; rw [Lib.decDigits_length, Lib.decDigits_length]; exact h) (dec_digit u) (dec_digit v), spell_dec, spell_dec]
theorem tn_eq (u v : Nat) : ((tn u).toList == (tn v).toList) = decide (u = v) := by
  rw [← tx_nat, ← tx_nat, tx_eq]
  congr 1
  apply propext
  omega
theorem nDigits_mono {u v : Nat} (h : u ≤ v) : Lib.nDigits u ≤ Lib.nDigits v :=
  nDigits_le _ _ (Nat.lt_of_le_of_lt h (Lib.lt_pow_nDigits v)) (Lib.nDigits_pos v)
theorem lt_of_size {u v : Nat} (h : (tn u).size < (tn v).size) : u < v := by
  rw [tn_size, tn_size] at h
  rcases Nat.lt_or_ge u v with h' | h'
  · exact h'
  · have := nDigits_mono h'
    omega

theorem cmp_lt {a b : Int} (h : a < b) : cmp a b = -1 := by unfold cmp; rw [if_pos h]
theorem cmp_eq {a b : Int} (h : a = b) : cmp a b = 0 := by unfold cmp; rw [if_neg (by omega), if_neg (by omega)]
theorem cmp_gt {a b : Int} (h : b < a) : cmp a b = 1 := by unfold cmp; rw [if_neg (by omega), if_pos h]

set_option maxRecDepth 100000 in
theorem dcompare_any (u v : Nat) (hu : (tn u).size ≤ 1000000000000) (hv : (tn v).size ≤ 1000000000000) (w : World) :
    Calls Tryz.prog 139 #[.string (tn u), .string (tn v)] w fun e w' => e = .returned (.int .i64 (cmp u v)) ∧ Below w.heap.size w w' := by
  rcases Nat.lt_trichotomy (tn u).size (tn v).size with h | h | h
  · have h1 : (((tn u).size : Int) != ((tn v).size : Int)) = true := by rw [bne_iff_ne]; omega
    have HC : Hid (cmp u v = -1) := cmp_lt (by have := lt_of_size h; omega)
    have hm : min 1 (max (-1) (((tn u).size : Int) - ((tn v).size : Int))) = -1 := by omega
    go_enter Tryz.func139, Tryz.ntmps139
    go_wp2_with fail
    go_ret
    refine ⟨?_, nb_refl _⟩
    rw [HC.out]
    first | rfl | exact ret_int hm
  · have h1 : (((tn u).size : Int) != ((tn v).size : Int)) = false := by rw [bne_eq_false_iff_eq]; omega
    have h2 := tn_less h
    have h3 : (!(tn u).toList == (tn v).toList) = !decide (u = v) := by rw [tn_eq]
    rcases Nat.lt_trichotomy u v with h4 | h4 | h4
    · rw [decide_eq_true h4] at h2
      have HC : Hid (cmp u v = -1) := cmp_lt (by omega)
      go_enter Tryz.func139, Tryz.ntmps139
      go_wp2_with fail
      go_ret
      exact ⟨by rw [HC.out]; rfl, nb_refl _⟩
    · subst h4
      rw [decide_eq_false (by omega)] at h2
      clear h3 h1 h
      have HC : Hid (cmp u u = 0) := cmp_eq rfl
      go_enter Tryz.func139, Tryz.ntmps139
      go_wp2_with fail
      go_ret
      exact ⟨by rw [HC.out]; rfl, nb_refl _⟩
    · rw [decide_eq_false (by omega)] at h2
      rw [decide_eq_false (by omega)] at h3
      have HC : Hid (cmp u v = 1) := cmp_gt (by omega)
      go_enter Tryz.func139, Tryz.ntmps139
      go_wp2_with fail
      go_ret
      exact ⟨by rw [HC.out]; rfl, nb_refl _⟩
  · have h1 : (((tn u).size : Int) != ((tn v).size : Int)) = true := by rw [bne_iff_ne]; omega
    have HC : Hid (cmp u v = 1) := cmp_gt (by have := lt_of_size h; omega)
    have hm : min 1 (max (-1) (((tn u).size : Int) - ((tn v).size : Int))) = 1 := by omega
    go_enter Tryz.func139, Tryz.ntmps139
    go_wp2_with fail
    go_ret
    refine ⟨?_, nb_refl _⟩
    rw [HC.out]
    first | rfl | exact ret_int hm
end Go.Proofs.YtmfkpmepgbjmkaaGreatDoor
