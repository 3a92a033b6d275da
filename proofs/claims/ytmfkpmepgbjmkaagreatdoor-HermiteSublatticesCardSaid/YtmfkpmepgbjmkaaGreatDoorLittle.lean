/-
  WALKS: whole.Small and whole.little: a numeral as an int.
-/
import Derived.Test.YtmfkpmepgbjmkaaGreatDoorWhole
set_option linter.unusedVariables false
set_option linter.unusedSimpArgs false
namespace Go.Proofs.YtmfkpmepgbjmkaaGreatDoor
open Go.RowKit

theorem small_of_size {a : Int} {k : Nat} (h : (tx a).size ≤ k) : a.natAbs < 10 ^ k := by
  have h1 := (nat_size a).1
  rw [tn_size] at h1
  exact Nat.lt_of_lt_of_le (Lib.lt_pow_nDigits _) (Nat.pow_le_pow_right (by omega) (by omega))
theorem i64_of_size {a : Int} (h : (tx a).size ≤ 18) : I64 a := by
  have := small_of_size h
  unfold I64
  omega
theorem little_long (s : ByteArray) (m : Int) (h : m < (s.size : Int)) (hm : s.size ≤ 9223372036854775807) (w : World) :
    Calls Tryz.prog 90 #[.string s, .int .i64 m] w fun e w' => e = .returned (.tuple #[.int .i64 0, .bool false]) ∧ Below w.heap.size w w' := by
  go_enter Tryz.func90, Tryz.ntmps90
  go_wp2
  go_ret2
  exact ⟨rfl, nb_refl _⟩
theorem little_short (a : Int) (m : Int) (h : ((tx a).size : Int) ≤ m) (hm : m ≤ 18) (w : World) :
    Calls Tryz.prog 90 #[.string (tx a), .int .i64 m] w fun e w' => e = .returned (.tuple #[.int .i64 a, .bool true]) ∧ Below w.heap.size w w' := by
  have hs : (tx a).size ≤ 18 := by omega
  have hi := i64_of_size hs
  have hs' : (tx a).size ≤ 1000 := by omega
  go_enter Tryz.func90, Tryz.ntmps90
  go_wp2_with (go_at_call 129; refine (atoi_any a hi hs' _).mono ?_; rintro e w1 ⟨rfl, hb1⟩)
  go_quiet (fail)
  go_wp2
  go_ret2
  exact ⟨rfl, nb_trans hb1 (nb_drewN _ _)⟩
theorem small_ok (n : Int) (h : I64 n) (hz : Sz n) (w : World) :
    Calls Tryz.prog 85 #[.string (tx n)] w fun e w' => e = .returned (.tuple #[.int .i64 n, .bool true]) ∧ Below w.heap.size w w' := by
  have hs : (tx n).size ≤ 281474976710656 := by unfold Sz at hz; omega
  go_enter Tryz.func85, Tryz.ntmps85
  go_wp2_with (go_at_call 127; refine (parseInt_ok n h hs _).mono ?_; rintro e w1 ⟨rfl, hb1⟩)
  go_ret2
  exact ⟨rfl, hb1⟩
theorem small_far (n : Int) (h : ¬ I64 n) (hz : Sz n) (w : World) (hG : GOk w) :
    Calls Tryz.prog 85 #[.string (tx n)] w fun e w' => e = .returned (.tuple #[.int .i64 0, .bool false]) ∧ Below w.heap.size w w' := by
  have hs : (tx n).size ≤ 281474976710656 := by unfold Sz at hz; omega
  go_enter Tryz.func85, Tryz.ntmps85
  go_wp2_with (go_at_call 127; refine (parseInt_far n h hs _ hG).mono ?_; rintro e w1 ⟨v, T, p, rfl, hb1⟩)
  go_ret2
  exact ⟨rfl, hb1⟩
end Go.Proofs.YtmfkpmepgbjmkaaGreatDoor
