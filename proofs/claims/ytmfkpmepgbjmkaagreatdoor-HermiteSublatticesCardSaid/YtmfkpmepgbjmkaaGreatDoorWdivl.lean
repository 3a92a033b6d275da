/-
  WALKS: whole's DivMod, the long numbers.
-/
import Derived.Test.YtmfkpmepgbjmkaaGreatDoorWdiv
set_option linter.unusedVariables false
set_option linter.unusedSimpArgs false
namespace Go.Proofs.YtmfkpmepgbjmkaaGreatDoor
open Go.RowKit

def sg (n : Bool) (u : Nat) : Int := if n = true then -(u : Int) else u
theorem fdm_same_sign {a b : Int} {n : Bool} {Q R : Nat} (ha : a = sg n a.natAbs) (hb : b = sg n b.natAbs) (h : a.natAbs = b.natAbs * Q + R) (hR : R < b.natAbs) : Fdm a b (sg false Q) (sg n R) := by
  have h' : ((a.natAbs : Nat) : Int) = (b.natAbs : Int) * Q + R := by rw [h]; simp
  cases n
  · have e1 : a = (a.natAbs : Int) := ha
    have e2 : b = (b.natAbs : Int) := hb
    refine ⟨?_, by show 0 ≤ (R : Int) ∧ (R : Int) < b ∨ _; omega⟩
    show a = b * (Q : Int) + (R : Int)
    rw [e1, h', ← e2]
  · have e1 : a = -(a.natAbs : Int) := ha
    have e2 : b = -(b.natAbs : Int) := hb
    refine ⟨?_, by show _ ∨ b < -(R : Int) ∧ -(R : Int) ≤ 0; omega⟩
    show a = b * (Q : Int) + -(R : Int)
    rw [e1, h', e2]
    have : ((-(b.natAbs : Int)).natAbs : Int) = (b.natAbs : Int) := by omega
    rw [this]
    grind
theorem fdm_opp_zero {a b : Int} {n m : Bool} {Q R : Nat} (hnm : n ≠ m) (ha : a = sg n a.natAbs) (hb : b = sg m b.natAbs) (h : a.natAbs = b.natAbs * Q + R) (hR : R = 0) (hb0 : b ≠ 0) : Fdm a b (sg true Q) (sg m R) := by
  subst hR
  have h' : ((a.natAbs : Nat) : Int) = (b.natAbs : Int) * Q := by rw [h]; simp
  have e0 : sg m 0 = 0 := by cases m <;> rfl
  rw [e0]
  refine ⟨?_, by omega⟩
  show a = b * (-(Q : Int)) + 0
  cases n <;> cases m
  · exact absurd rfl hnm
  · have e1 : a = (a.natAbs : Int) := ha
    have e2 : b = -(b.natAbs : Int) := hb
    rw [e1, h']
    generalize (b.natAbs : Int) = v at *
    rw [e2]
    grind
  · have e1 : a = -(a.natAbs : Int) := ha
    have e2 : b = (b.natAbs : Int) := hb
    rw [e1, h']
    generalize (b.natAbs : Int) = v at *
    rw [e2]
    grind
  · exact absurd rfl hnm
theorem fdm_opp {a b : Int} {n m : Bool} {Q R : Nat} (hnm : n ≠ m) (ha : a = sg n a.natAbs) (hb : b = sg m b.natAbs) (h : a.natAbs = b.natAbs * Q + R) (hR : R < b.natAbs) (hR0 : 0 < R) : Fdm a b (sg true (Q + 1)) (sg m (b.natAbs - R)) := by
  have h' : ((a.natAbs : Nat) : Int) = (b.natAbs : Int) * Q + R := by rw [h]; simp
  have e3 : ((b.natAbs - R : Nat) : Int) = (b.natAbs : Int) - R := by omega
  cases n <;> cases m
  · exact absurd rfl hnm
  · have e1 : a = (a.natAbs : Int) := ha
    have e2 : b = -(b.natAbs : Int) := hb
    refine ⟨?_, by show _ ∨ b < -((b.natAbs - R : Nat) : Int) ∧ -((b.natAbs - R : Nat) : Int) ≤ 0; omega⟩
    show a = b * (-((Q + 1 : Nat) : Int)) + -((b.natAbs - R : Nat) : Int)
    rw [e3, e1, h', Int.natCast_add]
    generalize (b.natAbs : Int) = v at *
    rw [e2]
    grind
  · have e1 : a = -(a.natAbs : Int) := ha
    have e2 : b = (b.natAbs : Int) := hb
    refine ⟨?_, by show 0 ≤ ((b.natAbs - R : Nat) : Int) ∧ ((b.natAbs - R : Nat) : Int) < b ∨ _; omega⟩
    show a = b * (-((Q + 1 : Nat) : Int)) + ((b.natAbs - R : Nat) : Int)
    rw [e3, e1, h', Int.natCast_add]
    generalize (b.natAbs : Int) = v at *
    rw [e2]
    grind
  · exact absurd rfl hnm
theorem sg_abs (a : Int) : a = sg (decide (a < 0)) a.natAbs := by
  unfold sg
  by_cases h : a < 0
  · rw [decide_eq_true h, if_pos rfl]; omega
  · rw [decide_eq_false h, if_neg (by decide)]; omega

set_option maxRecDepth 100000 in
set_option maxHeartbeats 3200000 in
theorem wdiv_any (a b : Int) (ha : Za a) (hb : Za b) (hbz : b ≠ 0) (w : World) (hG : GOk w) :
    Calls Tryz.prog 53 #[.string (tx a), .string (tx b)] w (WdivPost a b w) := by
  obtain ⟨p, fp, hp, LA'⟩ := little_any18 a ha
  obtain ⟨q, fq, hq, LB'⟩ := little_any18 b hb
  have LA := Lib.hid LA'
  have LB := Lib.hid LB'
  by_cases hpq : fp = true ∧ fq = true
  · exact wdiv_short a b (hp hpq.1).2 (hq hpq.2).2 hbz w hG
  · have PA := Lib.hid (fun W => split_any a ha.sz W)
    have PB := Lib.hid (fun W => split_any b hb.sz W)
    have hv0 : 0 < b.natAbs := by omega
    have DM := Lib.hid (fun W (hg : GOk W) => ddivmod_any a.natAbs b.natAbs ha.zn hb.zn hv0 W hg)
    unfold DivModPost at DM
    have hR := Nat.mod_lt a.natAbs hv0
    have hD : a.natAbs = b.natAbs * (a.natAbs / b.natAbs) + a.natAbs % b.natAbs := (Nat.div_add_mod _ _).symm
    have hQs : (tn (a.natAbs / b.natAbs)).size ≤ 40000000000 := Nat.le_trans (tn_le (Nat.div_le_self _ _)) ha.nat
    have hRs : (tn (a.natAbs % b.natAbs)).size ≤ 40000000000 := Nat.le_trans (tn_le (Nat.le_of_lt hR)) hb.nat
    have h1s : (tn 1).size ≤ 40000000000 := by rw [tn_size, Lib.nDigits_small (by decide)]; decide
    have t1 : (⟨#[49]⟩ : ByteArray) = tn 1 := by decide +kernel
    have DA := Lib.hid (fun W (hg : GOk W) => dadd_any (a.natAbs / b.natAbs) 1 (by unfold Zn; omega) (by unfold Zn; omega) W hg)
    have DS := Lib.hid (fun W (hg : GOk W) => dsub_any b.natAbs (a.natAbs % b.natAbs) hb.zn (by unfold Zn; omega) (Nat.le_of_lt hR) W hg)
    rw [← t1] at DA
    have K1 := Lib.hid (fun t W => join_any t (a.natAbs / b.natAbs) (Nat.le_trans hQs (by decide)) W)
    have K2 := Lib.hid (fun t W => join_any t (a.natAbs % b.natAbs) (Nat.le_trans hRs (by decide)) W)
    have K3 := Lib.hid (fun t W => join_any t (a.natAbs / b.natAbs + 1) (Nat.le_trans (tn_add _ 1 40000000000 hQs h1s) (by decide)) W)
    have K4 := Lib.hid (fun t W => join_any t (b.natAbs - a.natAbs % b.natAbs) (Nat.le_trans (tn_le (Nat.sub_le _ _)) (Nat.le_trans hb.nat (by decide))) W)
    have hnz : ((tx b).toList == [48]) = false := by rw [tx_eq_zero, decide_eq_false hbz]
    have sa := sg_abs a
    have sb := sg_abs b
    have hrz := tn_zero (a.natAbs % b.natAbs)
    obtain ⟨n, hn⟩ : ∃ n, n = decide (a < 0) := ⟨_, rfl⟩
    obtain ⟨m, hm⟩ : ∃ m, m = decide (b < 0) := ⟨_, rfl⟩
    obtain ⟨Q, hQ⟩ : ∃ Q, Q = a.natAbs / b.natAbs := ⟨_, rfl⟩
    obtain ⟨R, hRR⟩ : ∃ R, R = a.natAbs % b.natAbs := ⟨_, rfl⟩
    rw [← hn] at PA sa
    rw [← hm] at PB sb
    rw [← hQ] at DM DA K1 K3 hD
    rw [← hRR] at DM DS K2 K4 hD hR hrz
    have F1 : Hid (n = m → Fdm a b (sg false Q) (sg m R)) := Lib.hid (fun h => by subst h; exact fdm_same_sign sa sb hD hR)
    have F2 : Hid (n ≠ m → R = 0 → Fdm a b (sg true Q) (sg m R)) := Lib.hid (fun h h0 => fdm_opp_zero h sa sb hD h0 hbz)
    have F3 : Hid (n ≠ m → 0 < R → Fdm a b (sg true (Q + 1)) (sg m (b.natAbs - R))) := Lib.hid (fun h h0 => fdm_opp h sa sb hD hR h0)
    have KK : Hid (∀ (t : Bool) (u : Nat), (if t = true then -(u : Int) else (u : Int)) = sg t u) := Lib.hid (fun t u => rfl)
    obtain ⟨x, hx⟩ : ∃ x, x = tx a := ⟨_, rfl⟩
    obtain ⟨y, hy⟩ : ∃ y, y = tx b := ⟨_, rfl⟩
    obtain ⟨u, hu⟩ : ∃ u, u = tn a.natAbs := ⟨_, rfl⟩
    obtain ⟨v, hv⟩ : ∃ v, v = tn b.natAbs := ⟨_, rfl⟩
    obtain ⟨zq, hzq⟩ : ∃ z, z = tn Q := ⟨_, rfl⟩
    obtain ⟨zr, hzr⟩ : ∃ z, z = tn R := ⟨_, rfl⟩
    obtain ⟨zq1, hzq1⟩ : ∃ z, z = tn (Q + 1) := ⟨_, rfl⟩
    obtain ⟨zr1, hzr1⟩ : ∃ z, z = tn (b.natAbs - R) := ⟨_, rfl⟩
    rw [← hx] at LA PA ⊢
    rw [← hy] at LB PB hnz ⊢
    rw [← hu] at PA DM
    rw [← hv] at PB DM DS
    rw [← hzq] at DM DA K1
    rw [← hzr] at DM DS K2 hrz
    rw [← hzq1] at DA K3
    rw [← hzr1] at DS K4
    clear hn hm hx hy hu hv hzq hzr hzq1 hzr1 hQ hRR hQs hRs h1s t1 hD sa sb hp hq LA' LB' ha hb hv0
    by_cases hnm : n = m
    · subst hnm
      have F := Lib.hid (F1.out rfl)
      have J1 : Hid (∀ W, Calls Tryz.prog 95 #[.bool false, .string zq] W fun e w' => e = .returned (.string (tx (sg false Q))) ∧ Below W.heap.size W w') := Lib.hid (fun W => K1.out false W)
      have J2 : Hid (∀ W, Calls Tryz.prog 95 #[.bool n, .string zr] W fun e w' => e = .returned (.string (tx (sg n R))) ∧ Below W.heap.size W w') := Lib.hid (fun W => K2.out n W)
      obtain ⟨s1, hs1⟩ : ∃ s, s = tx (sg false Q) := ⟨_, rfl⟩
      obtain ⟨s2, hs2⟩ : ∃ s, s = tx (sg n R) := ⟨_, rfl⟩
      rw [← hs1] at J1
      rw [← hs2] at J2
      have HS1 := Lib.hid hs1
      have HS2 := Lib.hid hs2
      clear hs1 hs2
      clear F1 F2 F3 K1 K2 K3 K4 DA DS hrz hR
      rcases Bool.eq_false_or_eq_true fp with hfp | hfp
      · subst hfp
        obtain rfl : fq = false := by
          rcases Bool.eq_false_or_eq_true fq with h | h
          · exact absurd ⟨rfl, h⟩ hpq
          · exact h
        clear hpq
        go_enter Tryz.func53, Tryz.ntmps53
        go_wp2_with (first
          | (go_at_call 90; have _t := hb0; refine (LB.out _).mono ?_; rintro e w1 ⟨rfl, hb1⟩)
          | (go_at_call 90; refine (LA.out _).mono ?_; rintro e w0 ⟨rfl, hb0⟩)
          | (go_at_call 91; have _t := hb2; refine (PB.out _).mono ?_; rintro e w3 ⟨rfl, hb3⟩)
          | (go_at_call 91; refine (PA.out _).mono ?_; rintro e w2 ⟨rfl, hb2⟩)
          | (go_at_call 92; refine (DM.out _ ((((hG.below hb0).below hb1).below hb2).below hb3)).mono ?_; rintro e w4 ⟨rfl, hb4⟩)
          | (go_at_call 95; have _t := hb7; refine (J2.out _).mono ?_; rintro e w8 ⟨rfl, hb8⟩)
          | (go_at_call 95; refine (J1.out _).mono ?_; rintro e w7 ⟨rfl, hb7⟩; have hb5 := nb_refl w4; have hb6 := nb_refl w4))
        go_ret3
        refine ⟨_, _, F.out, ?_, nb_trans hb0 (nb_trans hb1 (nb_trans hb2 (nb_trans hb3 (nb_trans hb4 (nb_trans hb5 (nb_trans hb6 (nb_trans hb7 hb8)))))))⟩
        rw [← HS1.out, ← HS2.out]
        rfl
      · subst hfp
        clear hpq
        go_enter Tryz.func53, Tryz.ntmps53
        go_wp2_with (first
          | (go_at_call 90; refine (LA.out _).mono ?_; rintro e w1 ⟨rfl, hb1⟩; have hb0 := nb_refl w)
          | (go_at_call 91; have _t := hb2; refine (PB.out _).mono ?_; rintro e w3 ⟨rfl, hb3⟩)
          | (go_at_call 91; refine (PA.out _).mono ?_; rintro e w2 ⟨rfl, hb2⟩)
          | (go_at_call 92; refine (DM.out _ ((((hG.below hb0).below hb1).below hb2).below hb3)).mono ?_; rintro e w4 ⟨rfl, hb4⟩)
          | (go_at_call 95; have _t := hb7; refine (J2.out _).mono ?_; rintro e w8 ⟨rfl, hb8⟩)
          | (go_at_call 95; refine (J1.out _).mono ?_; rintro e w7 ⟨rfl, hb7⟩; have hb5 := nb_refl w4; have hb6 := nb_refl w4))
        go_ret3
        refine ⟨_, _, F.out, ?_, nb_trans hb0 (nb_trans hb1 (nb_trans hb2 (nb_trans hb3 (nb_trans hb4 (nb_trans hb5 (nb_trans hb6 (nb_trans hb7 hb8)))))))⟩
        rw [← HS1.out, ← HS2.out]
        rfl
    · have hnm' : (!n == m) = true := by rw [beq_eq_false_iff_ne.2 hnm]; rfl
      have hnm2 : (n == m) = false := beq_eq_false_iff_ne.2 hnm
      by_cases hR0 : R = 0
      · have F := Lib.hid (F2.out hnm hR0)
        have J1 : Hid (∀ W, Calls Tryz.prog 95 #[.bool true, .string zq] W fun e w' => e = .returned (.string (tx (sg true Q))) ∧ Below W.heap.size W w') := Lib.hid (fun W => K1.out true W)
        have J2 : Hid (∀ W, Calls Tryz.prog 95 #[.bool m, .string zr] W fun e w' => e = .returned (.string (tx (sg m R))) ∧ Below W.heap.size W w') := Lib.hid (fun W => K2.out m W)
        obtain ⟨s1, hs1⟩ : ∃ s, s = tx (sg true Q) := ⟨_, rfl⟩
        obtain ⟨s2, hs2⟩ : ∃ s, s = tx (sg m R) := ⟨_, rfl⟩
        rw [← hs1] at J1
        rw [← hs2] at J2
        have HS1 := Lib.hid hs1
        have HS2 := Lib.hid hs2
        clear hs1 hs2
        rw [decide_eq_true hR0] at hrz
        clear F1 F2 F3 K1 K2 K3 K4 DA DS hR
        rcases Bool.eq_false_or_eq_true fp with hfp | hfp
        · subst hfp
          obtain rfl : fq = false := by
            rcases Bool.eq_false_or_eq_true fq with h | h
            · exact absurd ⟨rfl, h⟩ hpq
            · exact h
          clear hpq
          go_enter Tryz.func53, Tryz.ntmps53
          go_wp2_with (first
            | (go_at_call 90; have _t := hb0; refine (LB.out _).mono ?_; rintro e w1 ⟨rfl, hb1⟩)
            | (go_at_call 90; refine (LA.out _).mono ?_; rintro e w0 ⟨rfl, hb0⟩)
            | (go_at_call 91; have _t := hb2; refine (PB.out _).mono ?_; rintro e w3 ⟨rfl, hb3⟩)
            | (go_at_call 91; refine (PA.out _).mono ?_; rintro e w2 ⟨rfl, hb2⟩)
            | (go_at_call 92; refine (DM.out _ ((((hG.below hb0).below hb1).below hb2).below hb3)).mono ?_; rintro e w4 ⟨rfl, hb4⟩)
            | (go_at_call 95; have _t := hb7; refine (J2.out _).mono ?_; rintro e w8 ⟨rfl, hb8⟩)
            | (go_at_call 95; refine (J1.out _).mono ?_; rintro e w7 ⟨rfl, hb7⟩; have hb5 := nb_refl w4; have hb6 := nb_refl w4))
          go_ret3
          refine ⟨_, _, F.out, ?_, nb_trans hb0 (nb_trans hb1 (nb_trans hb2 (nb_trans hb3 (nb_trans hb4 (nb_trans hb5 (nb_trans hb6 (nb_trans hb7 hb8)))))))⟩
          rw [← HS1.out, ← HS2.out]
          rfl
        · subst hfp
          clear hpq
          go_enter Tryz.func53, Tryz.ntmps53
          go_wp2_with (first
            | (go_at_call 90; refine (LA.out _).mono ?_; rintro e w1 ⟨rfl, hb1⟩; have hb0 := nb_refl w)
            | (go_at_call 91; have _t := hb2; refine (PB.out _).mono ?_; rintro e w3 ⟨rfl, hb3⟩)
            | (go_at_call 91; refine (PA.out _).mono ?_; rintro e w2 ⟨rfl, hb2⟩)
            | (go_at_call 92; refine (DM.out _ ((((hG.below hb0).below hb1).below hb2).below hb3)).mono ?_; rintro e w4 ⟨rfl, hb4⟩)
            | (go_at_call 95; have _t := hb7; refine (J2.out _).mono ?_; rintro e w8 ⟨rfl, hb8⟩)
            | (go_at_call 95; refine (J1.out _).mono ?_; rintro e w7 ⟨rfl, hb7⟩; have hb5 := nb_refl w4; have hb6 := nb_refl w4))
          go_ret3
          refine ⟨_, _, F.out, ?_, nb_trans hb0 (nb_trans hb1 (nb_trans hb2 (nb_trans hb3 (nb_trans hb4 (nb_trans hb5 (nb_trans hb6 (nb_trans hb7 hb8)))))))⟩
          rw [← HS1.out, ← HS2.out]
          rfl
      · have F := Lib.hid (F3.out hnm (by omega))
        have J1 : Hid (∀ W, Calls Tryz.prog 95 #[.bool true, .string zq1] W fun e w' => e = .returned (.string (tx (sg true (Q + 1)))) ∧ Below W.heap.size W w') := Lib.hid (fun W => K3.out true W)
        have J2 : Hid (∀ W, Calls Tryz.prog 95 #[.bool m, .string zr1] W fun e w' => e = .returned (.string (tx (sg m (b.natAbs - R)))) ∧ Below W.heap.size W w') := Lib.hid (fun W => K4.out m W)
        obtain ⟨s1, hs1⟩ : ∃ s, s = tx (sg true (Q + 1)) := ⟨_, rfl⟩
        obtain ⟨s2, hs2⟩ : ∃ s, s = tx (sg m (b.natAbs - R)) := ⟨_, rfl⟩
        rw [← hs1] at J1
        rw [← hs2] at J2
        have HS1 := Lib.hid hs1
        have HS2 := Lib.hid hs2
        clear hs1 hs2
        rw [decide_eq_false hR0] at hrz
        clear F1 F2 F3 K1 K2 K3 K4 hR
        rcases Bool.eq_false_or_eq_true fp with hfp | hfp
        · subst hfp
          obtain rfl : fq = false := by
            rcases Bool.eq_false_or_eq_true fq with h | h
            · exact absurd ⟨rfl, h⟩ hpq
            · exact h
          clear hpq
          go_enter Tryz.func53, Tryz.ntmps53
          go_wp2_with (first
            | (go_at_call 90; have _t := hb0; refine (LB.out _).mono ?_; rintro e w1 ⟨rfl, hb1⟩)
            | (go_at_call 90; refine (LA.out _).mono ?_; rintro e w0 ⟨rfl, hb0⟩)
            | (go_at_call 91; have _t := hb2; refine (PB.out _).mono ?_; rintro e w3 ⟨rfl, hb3⟩)
            | (go_at_call 91; refine (PA.out _).mono ?_; rintro e w2 ⟨rfl, hb2⟩)
            | (go_at_call 92; refine (DM.out _ ((((hG.below hb0).below hb1).below hb2).below hb3)).mono ?_; rintro e w4 ⟨rfl, hb4⟩)
            | (go_at_call 93; refine (DA.out _ (((((hG.below hb0).below hb1).below hb2).below hb3).below hb4)).mono ?_; rintro e w5 ⟨rfl, hb5⟩)
            | (go_at_call 94; refine (DS.out _ ((((((hG.below hb0).below hb1).below hb2).below hb3).below hb4).below hb5)).mono ?_; rintro e w6 ⟨rfl, hb6⟩)
            | (go_at_call 95; have _t := hb7; refine (J2.out _).mono ?_; rintro e w8 ⟨rfl, hb8⟩)
            | (go_at_call 95; refine (J1.out _).mono ?_; rintro e w7 ⟨rfl, hb7⟩))
          go_ret3
          refine ⟨_, _, F.out, ?_, nb_trans hb0 (nb_trans hb1 (nb_trans hb2 (nb_trans hb3 (nb_trans hb4 (nb_trans hb5 (nb_trans hb6 (nb_trans hb7 hb8)))))))⟩
          rw [← HS1.out, ← HS2.out]
          rfl
        · subst hfp
          clear hpq
          go_enter Tryz.func53, Tryz.ntmps53
          go_wp2_with (first
            | (go_at_call 90; refine (LA.out _).mono ?_; rintro e w1 ⟨rfl, hb1⟩; have hb0 := nb_refl w)
            | (go_at_call 91; have _t := hb2; refine (PB.out _).mono ?_; rintro e w3 ⟨rfl, hb3⟩)
            | (go_at_call 91; refine (PA.out _).mono ?_; rintro e w2 ⟨rfl, hb2⟩)
            | (go_at_call 92; refine (DM.out _ ((((hG.below hb0).below hb1).below hb2).below hb3)).mono ?_; rintro e w4 ⟨rfl, hb4⟩)
            | (go_at_call 93; refine (DA.out _ (((((hG.below hb0).below hb1).below hb2).below hb3).below hb4)).mono ?_; rintro e w5 ⟨rfl, hb5⟩)
            | (go_at_call 94; refine (DS.out _ ((((((hG.below hb0).below hb1).below hb2).below hb3).below hb4).below hb5)).mono ?_; rintro e w6 ⟨rfl, hb6⟩)
            | (go_at_call 95; have _t := hb7; refine (J2.out _).mono ?_; rintro e w8 ⟨rfl, hb8⟩)
            | (go_at_call 95; refine (J1.out _).mono ?_; rintro e w7 ⟨rfl, hb7⟩))
          go_ret3
          refine ⟨_, _, F.out, ?_, nb_trans hb0 (nb_trans hb1 (nb_trans hb2 (nb_trans hb3 (nb_trans hb4 (nb_trans hb5 (nb_trans hb6 (nb_trans hb7 hb8)))))))⟩
          rw [← HS1.out, ← HS2.out]
          rfl
end Go.Proofs.YtmfkpmepgbjmkaaGreatDoor
