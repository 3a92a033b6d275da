/-
  WALKS: decimal.pieces' compare.
-/
import Derived.Test.YtmfkpmepgbjmkaaGreatDoorPieces
import Derived.Test.YtmfkpmepgbjmkaaGreatDoorVal
set_option linter.unusedVariables false
set_option linter.unusedSimpArgs false
namespace Go.Proofs.YtmfkpmepgbjmkaaGreatDoor
open Go.RowKit

/-- How numbers compare. -/
def cmp (a b : Int) : Int := if a < b then -1 else if b < a then 1 else 0

set_option maxRecDepth 100000 in
set_option maxHeartbeats 800000 in
theorem compare_any (A A' : Option Addr) (n m c c' : Nat) (ds es : List Int) (w : World) (hr : Rd .u64 w A n ds) (hs : Rd .u64 w A' m es)
    (hn : n ≤ 4611686018427387904) (hm : m ≤ 4611686018427387904) (hd : Dig ds) (he : Dig es) (td : Top ds) (te : Top es) :
    Calls Tryz.prog 133 #[.slice A n c, .slice A' m c'] w fun e w' => e = .returned (.int .i64 (cmp (val ds) (val es))) ∧ Below w.heap.size w w' := by
  have H1 := Lib.hid hr
  have H2 := Lib.hid hs
  have HD := Lib.hid (And.intro hd (And.intro he (And.intro td te)))
  have l1 := hr.1
  have l2 := hs.1
  clear hr hs hd he td te
  rcases Nat.lt_trichotomy n m with h | h | h
  · have HC : Hid (cmp (val ds) (val es) = -1) := by
      obtain ⟨hd, he, td, te⟩ := HD.out
      have := val_longer hd he te (by omega)
      unfold cmp
      exact if_pos this
    have h' : (n : Int) < (m : Int) := by omega
    clear l1 l2
    go_enter Tryz.func133, Tryz.ntmps133
    go_wp2
    go_ret
    refine ⟨ret_int ?_, nb_refl _⟩
    rw [HC.out]
    omega
  · have L1 := Lib.hid l1
    have L2 := Lib.hid l2
    subst h
    clear l1 l2
    go_enter Tryz.func133, Tryz.ntmps133
    go_wp2_with fail
    go_loopw [5] (fun s wr => ∃ i : Int, -1 ≤ i ∧ i < (n : Int) ∧ s = .int .i64 i ∧ Hid (ds.drop (i + 1).toNat = es.drop (i + 1).toNat) ∧ Below w.heap.size w wr) (fun s _ => (intOf s + 1).toNat)
    case atStart =>
      refine ⟨(n : Int) - 1, by omega, by omega, rfl, ?_, nb_refl _⟩
      show ds.drop ((n : Int) - 1 + 1).toNat = es.drop ((n : Int) - 1 + 1).toNat
      rw [List.drop_eq_nil_of_le (by have := L1.out; omega), List.drop_eq_nil_of_le (by have := L2.out; omega)]
    case round =>
      obtain ⟨i, hi0, hi1, rfl, hdr, hb⟩ := hrel
      by_cases h0 : 0 ≤ i
      · obtain ⟨g, hA, c1⟩ := (H1.out.nb hb).at_ (i := i.toNat) (by omega)
        obtain ⟨g', hA', c2⟩ := (H2.out.nb hb).at_ (i := i.toNat) (by omega)
        subst hA hA'
        obtain ⟨x, hx⟩ : ∃ x, x = ds.getD i.toNat 0 := ⟨_, rfl⟩
        obtain ⟨y, hy⟩ : ∃ y, y = es.getD i.toNat 0 := ⟨_, rfl⟩
        rw [← hx] at c1
        rw [← hy] at c2
        have bx : 0 ≤ x ∧ x < 1000000000 := hx ▸ HD.out.1.at_ _
        have by_ : 0 ≤ y ∧ y < 1000000000 := hy ▸ HD.out.2.1.at_ _
        obtain ⟨bx0, bx1⟩ := bx
        obtain ⟨by0, by1⟩ := by_
        have HX := Lib.hid hx
        have HY := Lib.hid hy
        clear hx hy
        have e1 : (i + 1).toNat = i.toNat + 1 := by omega
        have hdr' : Hid (ds.drop (i.toNat + 1) = es.drop (i.toNat + 1)) := by rw [e1] at hdr; exact hdr
        clear e1
        rcases Int.lt_trichotomy x y with hxy | hxy | hxy
        · have HC : Hid (cmp (val ds) (val es) = -1) := by
            obtain ⟨hd, he, td, te⟩ := HD.out
            have h1 := L1.out
            have h2 := L2.out
            have := val_differ hd he (by omega) (i := i.toNat) (by omega) (by rw [← HX.out, ← HY.out]; exact hxy) hdr'.out
            unfold cmp
            exact if_pos this
          go_wp2_with fail
          go_quiet (fail)
          go_wp2_with fail
          go_ret
          exact ⟨ret_int HC.out.symm, nb_trans hb (nb_drewN _ _)⟩
        · subst hxy
          have hlt : ¬ x < x := by omega
          go_wp2_with fail
          go_quiet (fail)
          go_wp2_with fail
          go_quiet (fail)
          go_wp2_with fail
          go_roundw
          case rel =>
            refine ⟨i - 1, by omega, by omega, rfl, ?_, nb_trans hb (nb_drewN _ _)⟩
            show ds.drop (i - 1 + 1).toNat = es.drop (i - 1 + 1).toNat
            have h1 := L1.out
            have h2 := L2.out
            rw [show i - 1 + 1 = i by omega, List.drop_eq_getElem_cons (by omega), List.drop_eq_getElem_cons (show i.toNat < es.length by omega), hdr'.out]
            have hx := HX.out
            have hy := HY.out
            rw [List.getD_eq_getElem?_getD, List.getElem?_eq_getElem (by omega)] at hx hy
            simp only [Option.getD_some] at hx hy
            rw [← hx, ← hy]
          case measure => simp [intOf]; omega
        · have HC : Hid (cmp (val ds) (val es) = 1) := by
            obtain ⟨hd, he, td, te⟩ := HD.out
            have h1 := L1.out
            have h2 := L2.out
            have := val_differ he hd (by omega) (i := i.toNat) (by omega) (by rw [← HX.out, ← HY.out]; exact hxy) hdr'.out.symm
            unfold cmp
            rw [if_neg (by omega)]
            exact if_pos this
          have hlt : ¬ x < y := by omega
          go_wp2_with fail
          go_quiet (fail)
          go_wp2_with fail
          go_quiet (fail)
          go_wp2_with fail
          go_ret
          exact ⟨ret_int HC.out.symm, nb_trans hb (nb_trans (nb_drewN _ _) (nb_drewN _ _))⟩
      · obtain rfl : i = -1 := by omega
        have HC : Hid (cmp (val ds) (val es) = 0) := by
          have : ds = es := hdr.out
          rw [this]
          unfold cmp
          rw [if_neg (by omega), if_neg (by omega)]
          exact rfl
        go_wp2_with fail
        go_ret
        exact ⟨ret_int HC.out.symm, hb⟩
  · have HC : Hid (cmp (val ds) (val es) = 1) := by
      obtain ⟨hd, he, td, te⟩ := HD.out
      have := val_longer he hd td (by omega)
      unfold cmp
      rw [if_neg (by omega)]
      exact if_pos this
    have h' : (m : Int) < (n : Int) := by omega
    clear l1 l2
    go_enter Tryz.func133, Tryz.ntmps133
    go_wp2
    go_ret
    refine ⟨ret_int ?_, nb_refl _⟩
    rw [HC.out]
    omega
end Go.Proofs.YtmfkpmepgbjmkaaGreatDoor
