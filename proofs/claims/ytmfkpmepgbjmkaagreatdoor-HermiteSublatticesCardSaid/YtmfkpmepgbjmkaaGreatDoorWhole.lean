/-
  WALKS: package whole's functions that look at signs alone: split, join, Sign, Neg, Abs; Of, Small, little.
-/
import Derived.Test.YtmfkpmepgbjmkaaGreatDoorMem
set_option linter.unusedVariables false
set_option linter.unusedSimpArgs false
namespace Go.Proofs.YtmfkpmepgbjmkaaGreatDoor
open Go.RowKit

theorem ret_str {a b : ByteArray} (h : a = b) : Ending.returned (.string a) = .returned (.string b) := by rw [h]
theorem ret_int {k : IntKind} {a b : Int} (h : a = b) : Ending.returned (.int k a) = .returned (.int k b) := by rw [h]
theorem bytes_ext {s t : ByteArray} (h : s.data.toList = t.data.toList) : s = t := by
  obtain ⟨⟨a⟩⟩ := s
  obtain ⟨⟨b⟩⟩ := t
  have h' : a = b := h
  rw [h']
/-- A text's first byte, as the walk reads it. -/
theorem first_byte {s : ByteArray} {c : UInt8} {r : List UInt8} (h : s.data.toList = c :: r) : ∃ hp : 0 < s.size, (s[0]'hp).toNat = c.toNat := by
  have hs : s.size = r.length + 1 := by rw [Lib.size_eq, h]; rfl
  refine ⟨by omega, ?_⟩
  rw [Lib.getD_at s 0 (by omega), h]
  rfl
theorem extract_tail {s : ByteArray} {c : UInt8} {r : List UInt8} (h : s.data.toList = c :: r) : s.extract 1 s.size = ⟨r.toArray⟩ := by
  refine bytes_ext ?_
  have hs : s.size = r.length + 1 := by rw [Lib.size_eq, h]; rfl
  rw [Lib.extract_data, h, hs]
  simp
/-- A numeral small enough for memory. -/
def Sz (a : Int) : Prop := (tx a).size ≤ 1000000000000
theorem Sz.le {a : Int} (h : Sz a) : (tx a).size ≤ 9223372036854775807 := by unfold Sz at h; omega
theorem nat_size (a : Int) : (tn a.natAbs).size ≤ (tx a).size ∧ (tx a).size ≤ (tn a.natAbs).size + 1 := by
  rw [tn_size, tx_size]
  unfold Lib.itoa
  split
  · rw [List.length_cons, Lib.decDigits_length]; omega
  · rw [Lib.decDigits_length, show a.toNat = a.natAbs by omega]; omega

theorem split_minus (s : ByteArray) (hp : 0 < s.size) (hb : ((s[0]'hp).toNat : Int) = 45) (hm : s.size ≤ 9223372036854775807) (w : World) :
    Calls Tryz.prog 91 #[.string s] w fun e w' => e = .returned (.tuple #[.bool true, .string (s.extract 1 s.size)]) ∧ Below w.heap.size w w' := by
  have hp' : (0 : Int) < (s.size : Int) := by omega
  have hp1 : 1 ≤ s.size := hp
  go_enter Tryz.func91, Tryz.ntmps91
  go_wp2
  go_quiet (fail)
  go_wp2
  go_ret2
  exact ⟨rfl, nb_drewN _ _⟩
theorem split_plain (s : ByteArray) (hp : 0 < s.size) (hb : ((s[0]'hp).toNat : Int) ≠ 45) (hm : s.size ≤ 9223372036854775807) (w : World) :
    Calls Tryz.prog 91 #[.string s] w fun e w' => e = .returned (.tuple #[.bool false, .string s]) ∧ Below w.heap.size w w' := by
  have hp' : (0 : Int) < (s.size : Int) := by omega
  go_enter Tryz.func91, Tryz.ntmps91
  go_wp2
  go_ret2
  exact ⟨rfl, nb_refl _⟩
theorem tx_minus {a : Int} (ha : a < 0) : (tx a).data.toList = 45 :: Lib.decDigits a.natAbs := by
  rw [tx_list]; unfold Lib.itoa; rw [if_pos ha]
theorem tx_plain {a : Int} (ha : ¬ a < 0) : tx a = tn a.natAbs := by
  rw [← tx_nat]; congr 1; omega
theorem split_any (a : Int) (hz : Sz a) (w : World) :
    Calls Tryz.prog 91 #[.string (tx a)] w fun e w' => e = .returned (.tuple #[.bool (decide (a < 0)), .string (tn a.natAbs)]) ∧ Below w.heap.size w w' := by
  by_cases ha : a < 0
  · have hl := tx_minus ha
    obtain ⟨hp, hb⟩ := first_byte hl
    refine (split_minus (tx a) hp (by rw [hb]; rfl) hz.le w).mono fun e w' ⟨he, hw⟩ => ⟨?_, hw⟩
    rw [he, extract_tail hl, decide_eq_true ha]
    rfl
  · obtain ⟨c, r, hc, h1, h2⟩ := dec_head a.natAbs
    have hl : (tx a).data.toList = c :: r := by rw [tx_plain ha]; exact hc
    obtain ⟨hp, hb⟩ := first_byte hl
    refine (split_plain (tx a) hp (by rw [hb]; omega) hz.le w).mono fun e w' ⟨he, hw⟩ => ⟨?_, hw⟩
    rw [he, decide_eq_false ha, tx_plain ha]

theorem tn_zero (u : Nat) : ((tn u).toList == [48]) = decide (u = 0) := by
  rw [← tx_nat, tx_eq_zero]
  congr 1
  apply propext
  omega
theorem concat_minus (u : Nat) (hu : 0 < u) : (⟨#[45]⟩ : ByteArray) ++ tn u = tx (-(u : Int)) := by
  refine bytes_ext ?_
  rw [tx_list, tx_neg u hu]
  simp [tn]
theorem join_any (n : Bool) (u : Nat) (hz : (tn u).size ≤ 1000000000000) (w : World) :
    Calls Tryz.prog 95 #[.bool n, .string (tn u)] w fun e w' => e = .returned (.string (tx (if n = true then -(u : Int) else u))) ∧ Below w.heap.size w w' := by
  have hz' : 1 + (tn u).size ≤ 9223372036854775807 := by omega
  cases n
  · go_enter Tryz.func95, Tryz.ntmps95
    go_wp2
    go_ret
    exact ⟨ret_str (tx_nat u).symm, nb_refl _⟩
  · by_cases h0 : u = 0
    · subst h0
      have h : ((tn 0).toList == [48]) = true := by rw [tn_zero]; rfl
      go_enter Tryz.func95, Tryz.ntmps95
      go_wp2
      go_ret
      exact ⟨rfl, nb_refl _⟩
    · have h : ((tn u).toList == [48]) = false := by rw [tn_zero, decide_eq_false h0]
      have hc := Lib.hid (concat_minus u (by omega))
      go_enter Tryz.func95, Tryz.ntmps95
      go_wp2
      go_ret
      exact ⟨ret_str hc.out, nb_refl _⟩

theorem sign_any (a : Int) (hz : Sz a) (w : World) :
    Calls Tryz.prog 82 #[.string (tx a)] w fun e w' => e = .returned (.int .i64 a.sign) ∧ Below w.heap.size w w' := by
  have hm := hz.le
  rcases Int.lt_trichotomy a 0 with ha | ha | ha
  · have h : ((tx a).toList == [48]) = false := by rw [tx_eq_zero, decide_eq_false (by omega)]
    obtain ⟨hp, hb⟩ := first_byte (tx_minus ha)
    have hb' : (((tx a)[0]'hp).toNat : Int) = 45 := by rw [hb]; rfl
    have hp' : (0 : Int) < ((tx a).size : Int) := by omega
    have hs := Lib.hid (Int.sign_eq_neg_one_of_neg ha)
    clear hb
    go_enter Tryz.func82, Tryz.ntmps82
    go_wp2
    go_ret
    exact ⟨ret_int hs.out.symm, nb_refl _⟩
  · subst ha
    have h : ((tx 0).toList == [48]) = true := by rw [tx_eq_zero]; rfl
    go_enter Tryz.func82, Tryz.ntmps82
    go_wp2
    go_ret
    exact ⟨rfl, nb_refl _⟩
  · have h : ((tx a).toList == [48]) = false := by rw [tx_eq_zero, decide_eq_false (by omega)]
    obtain ⟨c, r, hc, h1, h2⟩ := dec_head a.natAbs
    obtain ⟨hp, hb⟩ := first_byte (s := tx a) (c := c) (r := r) (by rw [tx_plain (by omega)]; exact hc)
    have hb' : (((tx a)[0]'hp).toNat : Int) ≠ 45 := by rw [hb]; omega
    have hp' : (0 : Int) < ((tx a).size : Int) := by omega
    have hs := Lib.hid (Int.sign_eq_one_of_pos ha)
    clear hb hc
    go_enter Tryz.func82, Tryz.ntmps82
    go_wp2
    go_ret
    exact ⟨ret_int hs.out.symm, nb_refl _⟩

theorem Sz.nat {a : Int} (h : Sz a) : (tn a.natAbs).size ≤ 1000000000000 := by
  have := nat_size a
  unfold Sz at h
  omega
theorem neg_any (a : Int) (hz : Sz a) (w : World) :
    Calls Tryz.prog 124 #[.string (tx a)] w fun e w' => e = .returned (.string (tx (-a))) ∧ Below w.heap.size w w' := by
  have hn := hz.nat
  go_enter Tryz.func124, Tryz.ntmps124
  go_wp2_with (first | (go_at_call 91; refine (split_any a hz _).mono ?_; rintro e w1 ⟨rfl, hb1⟩) | (go_at_call 95; refine (join_any _ _ hn _).mono ?_; rintro e w2 ⟨rfl, hb2⟩))
  all_goals
    go_ret
    exact ⟨ret_str (congrArg tx (by omega)), nb_trans hb1 hb2⟩
theorem abs_any (a : Int) (hz : Sz a) (w : World) :
    Calls Tryz.prog 123 #[.string (tx a)] w fun e w' => e = .returned (.string (tn a.natAbs)) ∧ Below w.heap.size w w' := by
  go_enter Tryz.func123, Tryz.ntmps123
  go_wp2_with (go_at_call 91; refine (split_any a hz _).mono ?_; rintro e w1 ⟨rfl, hb1⟩)
  go_ret
  exact ⟨rfl, hb1⟩
theorem of_any (n : Int) (h : I64 n) (w : World) (hG : GOk w) :
    Calls Tryz.prog 54 #[.int .i64 n] w fun e w' => e = .returned (.string (tx n)) ∧ Below w.heap.size w w' := by
  go_enter Tryz.func54, Tryz.ntmps54
  go_wp2_with (go_at_call 56; refine (itoa_any n h _ hG).mono ?_; rintro e w1 ⟨rfl, hb1⟩)
  go_ret
  exact ⟨rfl, hb1⟩
end Go.Proofs.YtmfkpmepgbjmkaaGreatDoor
