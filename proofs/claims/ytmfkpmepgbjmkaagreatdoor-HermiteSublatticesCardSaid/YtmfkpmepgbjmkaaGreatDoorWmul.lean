/-
  WALKS: whole's Sub and Mul.
-/
import Derived.Test.YtmfkpmepgbjmkaaGreatDoorWadd
set_option linter.unusedVariables false
set_option linter.unusedSimpArgs false
namespace Go.Proofs.YtmfkpmepgbjmkaaGreatDoor
open Go.RowKit

theorem wsub_any (a b : Int) (ha : Za a) (hb : Za b) (hb' : Za (-b)) (w : World) (hG : GOk w) :
    Calls Tryz.prog 126 #[.string (tx a), .string (tx b)] w fun e w' => e = .returned (.string (tx (a - b))) ∧ Below w.heap.size w w' := by
  have N := Lib.hid (fun W => neg_any b hb.sz W)
  have A := Lib.hid (fun W (hg : GOk W) => wadd_any a (-b) ha hb' W hg)
  rw [← Int.sub_eq_add_neg] at A
  obtain ⟨x, hx⟩ : ∃ x, x = tx a := ⟨_, rfl⟩
  obtain ⟨y, hy⟩ : ∃ y, y = tx b := ⟨_, rfl⟩
  obtain ⟨z, hz⟩ : ∃ z, z = tx (-b) := ⟨_, rfl⟩
  obtain ⟨r, hr⟩ : ∃ r, r = tx (a - b) := ⟨_, rfl⟩
  rw [← hx, ← hz, ← hr] at A
  rw [← hy, ← hz] at N
  rw [← hx, ← hy, ← hr]
  clear hx hy hz hr
  go_enter Tryz.func126, Tryz.ntmps126
  go_wp2_with (first
    | (go_at_call 124; refine (N.out _).mono ?_; rintro e w1 ⟨rfl, hb1⟩)
    | (go_at_call 121; refine (A.out _ (hG.below hb1)).mono ?_; rintro e w2 ⟨rfl, hb2⟩))
  go_ret
  exact ⟨rfl, nb_trans hb1 hb2⟩

theorem mul_i64 {p q : Int} (a0 : -1000000000 < p) (a1 : p < 1000000000) (b0 : -1000000000 < q) (b1 : q < 1000000000) : -1000000000000000000 < p * q ∧ p * q < 1000000000000000000 := by
  have h : (p * q).natAbs = p.natAbs * q.natAbs := Int.natAbs_mul p q
  have h1 : p.natAbs * q.natAbs ≤ 999999999 * 999999999 := Nat.mul_le_mul (by omega) (by omega)
  omega

set_option maxRecDepth 100000 in
set_option maxHeartbeats 1600000 in
theorem wmul_any (a b : Int) (ha : Za a) (hb : Za b) (w : World) (hG : GOk w) :
    Calls Tryz.prog 55 #[.string (tx a), .string (tx b)] w fun e w' => e = .returned (.string (tx (a * b))) ∧ Below w.heap.size w w' := by
  obtain ⟨p, fp, hp, LA'⟩ := little_any9 a ha
  obtain ⟨q, fq, hq, LB'⟩ := little_any9 b hb
  have LA := Lib.hid LA'
  have LB := Lib.hid LB'
  have PA := Lib.hid (fun W => split_any a ha.sz W)
  have PB := Lib.hid (fun W => split_any b hb.sz W)
  have DM := Lib.hid (fun W (hg : GOk W) => dmul_any a.natAbs b.natAbs ha.zn hb.zn W hg)
  have J := Lib.hid (fun n W => join_any n (a.natAbs * b.natAbs) (Nat.le_trans (tn_mul _ _ 40000000000 40000000000 ha.nat hb.nat (by decide)) (by decide)) W)
  clear LA' LB' ha hb
  by_cases hpq : fp = true ∧ fq = true
  · obtain ⟨rfl, rfl⟩ := hpq
    obtain ⟨rfl, h1⟩ := hp rfl
    obtain ⟨rfl, h2⟩ := hq rfl
    obtain ⟨a0, a1⟩ := i64_9 h1
    obtain ⟨b0, b1⟩ := i64_9 h2
    obtain ⟨m0, m1⟩ := mul_i64 a0 a1 b0 b1
    have O := Lib.hid (fun W (hg : GOk W) => of_any (p * q) (by unfold I64; omega) W hg)
    clear h1 h2 hp hq DM J PA PB
    obtain ⟨x, hx⟩ : ∃ x, x = tx p := ⟨_, rfl⟩
    obtain ⟨y, hy⟩ : ∃ y, y = tx q := ⟨_, rfl⟩
    rw [← hx] at LA ⊢
    rw [← hy] at LB ⊢
    clear hx hy
    go_enter Tryz.func55, Tryz.ntmps55
    go_wp2_with (first
      | (go_at_call 90; have _t := hb1; refine (LB.out _).mono ?_; rintro e w2 ⟨rfl, hb2⟩)
      | (go_at_call 90; refine (LA.out _).mono ?_; rintro e w1 ⟨rfl, hb1⟩)
      | (go_at_call 54; refine (O.out _ ((hG.below hb1).below hb2)).mono ?_; rintro e w3 ⟨rfl, hb3⟩))
    go_ret
    exact ⟨rfl, nb_trans hb1 (nb_trans hb2 hb3)⟩
  · obtain ⟨n, hn⟩ : ∃ n, n = decide (a < 0) := ⟨_, rfl⟩
    obtain ⟨m, hm⟩ : ∃ m, m = decide (b < 0) := ⟨_, rfl⟩
    have R : Hid (∀ t : Bool, t = (n != m) → (if t = true then -((a.natAbs * b.natAbs : Nat) : Int) else ((a.natAbs * b.natAbs : Nat) : Int)) = a * b) := Lib.hid (by
      intro t ht
      rw [ht, hn, hm, Int.natCast_mul]
      by_cases h0 : a < 0 <;> by_cases h1 : b < 0
      · rw [decide_eq_true h0, decide_eq_true h1, if_neg (by decide), show ((a.natAbs : Nat) : Int) = -a by omega, show ((b.natAbs : Nat) : Int) = -b by omega, Int.neg_mul_neg]
      · rw [decide_eq_true h0, decide_eq_false h1, if_pos (by decide), show ((a.natAbs : Nat) : Int) = -a by omega, show ((b.natAbs : Nat) : Int) = b by omega, Int.neg_mul, Int.neg_neg]
      · rw [decide_eq_false h0, decide_eq_true h1, if_pos (by decide), show ((a.natAbs : Nat) : Int) = a by omega, show ((b.natAbs : Nat) : Int) = -b by omega, Int.mul_neg, Int.neg_neg]
      · rw [decide_eq_false h0, decide_eq_false h1, if_neg (by decide), show ((a.natAbs : Nat) : Int) = a by omega, show ((b.natAbs : Nat) : Int) = b by omega])
    rw [← hn] at PA
    rw [← hm] at PB
    obtain ⟨t, ht⟩ : ∃ t, t = (n != m) := ⟨_, rfl⟩
    have HJ := Lib.hid (fun W => J.out t W)
    rw [R.out t ht] at HJ
    obtain ⟨x, hx⟩ : ∃ x, x = tx a := ⟨_, rfl⟩
    obtain ⟨y, hy⟩ : ∃ y, y = tx b := ⟨_, rfl⟩
    obtain ⟨u, hu⟩ : ∃ u, u = tn a.natAbs := ⟨_, rfl⟩
    obtain ⟨v, hv⟩ : ∃ v, v = tn b.natAbs := ⟨_, rfl⟩
    obtain ⟨z, hz⟩ : ∃ z, z = tn (a.natAbs * b.natAbs) := ⟨_, rfl⟩
    rw [← hx] at LA PA ⊢
    rw [← hy] at LB PB ⊢
    rw [← hu] at PA DM
    rw [← hv] at PB DM
    rw [← hz] at DM HJ
    rw [ht] at HJ
    clear hn hm hx hy hu hv hz hp hq R J ht
    rcases Bool.eq_false_or_eq_true fp with hfp | hfp
    · subst hfp
      obtain rfl : fq = false := by
        rcases Bool.eq_false_or_eq_true fq with h | h
        · exact absurd ⟨rfl, h⟩ hpq
        · exact h
      clear hpq
      go_enter Tryz.func55, Tryz.ntmps55
      go_wp2_with (first
        | (go_at_call 90; have _t := hb0; refine (LB.out _).mono ?_; rintro e w1 ⟨rfl, hb1⟩)
        | (go_at_call 90; refine (LA.out _).mono ?_; rintro e w0 ⟨rfl, hb0⟩)
        | (go_at_call 91; have _t := hb2; refine (PB.out _).mono ?_; rintro e w3 ⟨rfl, hb3⟩)
        | (go_at_call 91; refine (PA.out _).mono ?_; rintro e w2 ⟨rfl, hb2⟩)
        | (go_at_call 96; refine (DM.out _ ((((hG.below hb0).below hb1).below hb2).below hb3)).mono ?_; rintro e w5 ⟨rfl, hb5⟩)
        | (go_at_call 95; refine (HJ.out _).mono ?_; rintro e w6 ⟨rfl, hb6⟩))
      go_ret
      exact ⟨rfl, nb_trans hb0 (nb_trans hb1 (nb_trans hb2 (nb_trans hb3 (nb_trans hb5 hb6))))⟩
    · subst hfp
      clear hpq
      go_enter Tryz.func55, Tryz.ntmps55
      go_wp2_with (first
        | (go_at_call 90; refine (LA.out _).mono ?_; rintro e w1 ⟨rfl, hb1⟩)
        | (go_at_call 91; have _t := hb2; refine (PB.out _).mono ?_; rintro e w3 ⟨rfl, hb3⟩)
        | (go_at_call 91; refine (PA.out _).mono ?_; rintro e w2 ⟨rfl, hb2⟩)
        | (go_at_call 96; refine (DM.out _ (((hG.below hb1).below hb2).below hb3)).mono ?_; rintro e w5 ⟨rfl, hb5⟩)
        | (go_at_call 95; refine (HJ.out _).mono ?_; rintro e w6 ⟨rfl, hb6⟩))
      go_ret
      exact ⟨rfl, nb_trans hb1 (nb_trans hb2 (nb_trans hb3 (nb_trans hb5 hb6)))⟩
end Go.Proofs.YtmfkpmepgbjmkaaGreatDoor
