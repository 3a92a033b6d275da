/-
  WALKS: whole's DivMod (downward).
-/
import Derived.Test.YtmfkpmepgbjmkaaGreatDoorWmul
set_option linter.unusedVariables false
set_option linter.unusedSimpArgs false
namespace Go.Proofs.YtmfkpmepgbjmkaaGreatDoor
open Go.RowKit

/-- Quotient and remainder downward. -/
def Fdm (a b q r : Int) : Prop := a = b * q + r ∧ (0 ≤ r ∧ r < b ∨ b < r ∧ r ≤ 0)
def WdivPost (a b : Int) (w : World) (e : Ending) (w' : World) : Prop :=
  ∃ q r, Fdm a b q r ∧ e = .returned (.tuple #[.string (tx q), .string (tx r), .int .i64 0]) ∧ Below w.heap.size w w'

structure Tdm (X Y q r : Int) : Prop where
  eq : X = Y * q + r
  same : Y ≠ 0 → (0 ≤ X → 0 ≤ r) ∧ (X ≤ 0 → r ≤ 0)
  lt : Y ≠ 0 → r.natAbs < Y.natAbs
  le : Y ≠ 0 → q.natAbs ≤ X.natAbs
theorem tdm (X Y : Int) : Tdm X Y (X.tdiv Y) (X.tmod Y) := by
  refine ⟨(Int.mul_tdiv_add_tmod X Y).symm, fun h => ⟨fun h0 => Int.tmod_nonneg _ h0, fun h0 => ?_⟩, fun h => ?_, fun h => ?_⟩
  · have := Int.neg_tmod X Y
    have h2 := Int.tmod_nonneg Y (show 0 ≤ -X by omega)
    rw [this] at h2
    omega
  · rw [Int.natAbs_tmod]
    exact Nat.mod_lt _ (by omega)
  · rw [Int.natAbs_tdiv]
    exact Nat.div_le_self _ _

theorem fdm_adj {X Y q r : Int} (T : X = Y * q + r) (h3 : r.natAbs < Y.natAbs) (h1 : r ≠ 0) (h2 : (r < 0 ∧ ¬ Y < 0) ∨ (¬ r < 0 ∧ Y < 0)) : Fdm X Y (q - 1) (r + Y) := by
  refine ⟨?_, by omega⟩
  rw [T, Int.mul_sub]
  omega
theorem fdm_same {X Y q r : Int} (T : X = Y * q + r) (h3 : r.natAbs < Y.natAbs) (h2 : (r < 0 ∧ Y < 0) ∨ (¬ r < 0 ∧ ¬ Y < 0)) : Fdm X Y q r := ⟨T, by omega⟩
theorem fdm_zero {X Y q r : Int} (T : X = Y * q + r) (h0 : Y ≠ 0) (h2 : r = 0) : Fdm X Y q r := ⟨T, by omega⟩

set_option maxRecDepth 100000 in
set_option maxHeartbeats 1600000 in
theorem wdiv_short (p q : Int) (h1 : (tx p).size ≤ 18) (h2 : (tx q).size ≤ 18) (hq0 : q ≠ 0) (w : World) (hG : GOk w) :
    Calls Tryz.prog 53 #[.string (tx p), .string (tx q)] w (WdivPost p q w) := by
  have LA := Lib.hid (fun W => little_short p 18 (by omega) (by omega) W)
  have LB := Lib.hid (fun W => little_short q 18 (by omega) (by omega) W)
  obtain ⟨a0, a1⟩ := i64_18 h1
  obtain ⟨b0, b1⟩ := i64_18 h2
  have hnz : ((tx q).toList == [48]) = false := by rw [tx_eq_zero, decide_eq_false hq0]
  have T := tdm p q
  have t1 := T.eq
  have t2 := T.same hq0
  have t3 := T.lt hq0
  have t4 := T.le hq0
  have O := Lib.hid (fun n (h : I64 n) W (hg : GOk W) => of_any n h W hg)
  obtain ⟨x, hx⟩ : ∃ x, x = tx p := ⟨_, rfl⟩
  obtain ⟨y, hy⟩ : ∃ y, y = tx q := ⟨_, rfl⟩
  rw [← hx] at LA ⊢
  rw [← hy] at LB hnz ⊢
  clear hx hy h1 h2 T
  have q0 : -1000000000000000000 < p.tdiv q := by omega
  have q1 : p.tdiv q < 1000000000000000000 := by omega
  have r0 : -1000000000000000000 < p.tmod q := by omega
  have r1 : p.tmod q < 1000000000000000000 := by omega
  have T := Lib.hid (And.intro t1 (And.intro t2 (And.intro t3 t4)))
  clear t1 t2 t3 t4
  by_cases hz : p.tmod q = 0
  · have hz' : (p.tmod q != 0) = false := by rw [bne_eq_false_iff_eq]; exact hz
    have F := Lib.hid (fdm_zero T.out.1 hq0 hz)
    rw [hz] at F r0 r1
    go_enter Tryz.func53, Tryz.ntmps53
    go_wp2_with (first
      | (go_at_call 90; have _t := hb1; refine (LB.out _).mono ?_; rintro e w2 ⟨rfl, hb2⟩)
      | (go_at_call 90; refine (LA.out _).mono ?_; rintro e w1 ⟨rfl, hb1⟩))
    go_quiet (fail)
    go_wp2_with (first
      | (go_at_call 54; have _t := hb3; refine (O.out _ (by unfold I64; omega) _ (((hG.below hb1).below hb2).below (nb_drewN _ _) |>.below hb3)).mono ?_; rintro e w4 ⟨rfl, hb4⟩)
      | (go_at_call 54; refine (O.out _ (by unfold I64; omega) _ (((hG.below hb1).below hb2).below (nb_drewN _ _))).mono ?_; rintro e w3 ⟨rfl, hb3⟩))
    go_ret3
    exact ⟨_, _, F.out, rfl, nb_trans hb1 (nb_trans hb2 (nb_trans (nb_drewN _ _) (nb_trans hb3 hb4)))⟩
  · have hz' : (p.tmod q != 0) = true := by rw [bne_iff_ne]; exact hz
    by_cases hd : (p.tmod q < 0 ∧ ¬ q < 0) ∨ (¬ p.tmod q < 0 ∧ q < 0)
    · have F := Lib.hid (fdm_adj T.out.1 T.out.2.2.1 hz hd)
      have e2 : (!decide (p.tmod q < 0) == decide (q < 0)) = true := by
        rcases hd with ⟨h1, h2⟩ | ⟨h1, h2⟩
        · rw [decide_eq_true h1, decide_eq_false h2]; rfl
        · rw [decide_eq_false h1, decide_eq_true h2]; rfl
      go_enter Tryz.func53, Tryz.ntmps53
      go_wp2_with (first
        | (go_at_call 90; have _t := hb1; refine (LB.out _).mono ?_; rintro e w2 ⟨rfl, hb2⟩)
        | (go_at_call 90; refine (LA.out _).mono ?_; rintro e w1 ⟨rfl, hb1⟩))
      go_quiet (fail)
      go_wp2_with (first
        | (go_at_call 54; have _t := hb3; refine (O.out _ (by unfold I64; omega) _ (((hG.below hb1).below hb2).below (nb_drewN _ _) |>.below hb3)).mono ?_; rintro e w4 ⟨rfl, hb4⟩)
        | (go_at_call 54; refine (O.out _ (by unfold I64; omega) _ (((hG.below hb1).below hb2).below (nb_drewN _ _))).mono ?_; rintro e w3 ⟨rfl, hb3⟩))
      go_ret3
      exact ⟨_, _, F.out, rfl, nb_trans hb1 (nb_trans hb2 (nb_trans (nb_drewN _ _) (nb_trans hb3 hb4)))⟩
    · have F := Lib.hid (fdm_same T.out.1 T.out.2.2.1 (show (p.tmod q < 0 ∧ q < 0) ∨ (¬ p.tmod q < 0 ∧ ¬ q < 0) by omega))
      have e2 : (!decide (p.tmod q < 0) == decide (q < 0)) = false := by
        by_cases h1 : p.tmod q < 0
        · rw [decide_eq_true h1, decide_eq_true (by omega)]; rfl
        · rw [decide_eq_false h1, decide_eq_false (by omega)]; rfl
      go_enter Tryz.func53, Tryz.ntmps53
      go_wp2_with (first
        | (go_at_call 90; have _t := hb1; refine (LB.out _).mono ?_; rintro e w2 ⟨rfl, hb2⟩)
        | (go_at_call 90; refine (LA.out _).mono ?_; rintro e w1 ⟨rfl, hb1⟩))
      go_quiet (fail)
      go_wp2_with (first
        | (go_at_call 54; have _t := hb3; refine (O.out _ (by unfold I64; omega) _ (((hG.below hb1).below hb2).below (nb_drewN _ _) |>.below hb3)).mono ?_; rintro e w4 ⟨rfl, hb4⟩)
        | (go_at_call 54; refine (O.out _ (by unfold I64; omega) _ (((hG.below hb1).below hb2).below (nb_drewN _ _))).mono ?_; rintro e w3 ⟨rfl, hb3⟩))
      go_ret3
      exact ⟨_, _, F.out, rfl, nb_trans hb1 (nb_trans hb2 (nb_trans (nb_drewN _ _) (nb_trans hb3 hb4)))⟩
end Go.Proofs.YtmfkpmepgbjmkaaGreatDoor
