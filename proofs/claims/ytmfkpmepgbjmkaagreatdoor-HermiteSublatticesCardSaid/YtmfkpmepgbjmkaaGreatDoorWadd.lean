/-
  WALKS: whole's Add, Sub, Mul.
-/
import Derived.Test.YtmfkpmepgbjmkaaGreatDoorWcmp
set_option linter.unusedVariables false
set_option linter.unusedSimpArgs false
namespace Go.Proofs.YtmfkpmepgbjmkaaGreatDoor
open Go.RowKit

theorem little_any18 (a : Int) (ha : Za a) : ∃ (x : Int) (p : Bool), (p = true → x = a ∧ (tx a).size ≤ 18) ∧ ∀ W, Calls Tryz.prog 90 #[.string (tx a), .int .i64 18] W fun e w' => e = .returned (.tuple #[.int .i64 x, .bool p]) ∧ Below W.heap.size W w' := by
  by_cases h : (tx a).size ≤ 18
  · exact ⟨a, true, fun _ => ⟨rfl, h⟩, fun W => little_short a 18 (by omega) (by omega) W⟩
  · exact ⟨0, false, fun h => (by cases h), fun W => little_long (tx a) 18 (by omega) (by unfold Za at ha; omega) W⟩
theorem little_any9 (a : Int) (ha : Za a) : ∃ (x : Int) (p : Bool), (p = true → x = a ∧ (tx a).size ≤ 9) ∧ ∀ W, Calls Tryz.prog 90 #[.string (tx a), .int .i64 9] W fun e w' => e = .returned (.tuple #[.int .i64 x, .bool p]) ∧ Below W.heap.size W w' := by
  by_cases h : (tx a).size ≤ 9
  · exact ⟨a, true, fun _ => ⟨rfl, h⟩, fun W => little_short a 9 (by omega) (by omega) W⟩
  · exact ⟨0, false, fun h => (by cases h), fun W => little_long (tx a) 9 (by omega) (by unfold Za at ha; omega) W⟩

theorem i64_18 {a : Int} (h : (tx a).size ≤ 18) : -1000000000000000000 < a ∧ a < 1000000000000000000 := by
  have := small_of_size h
  omega
theorem i64_9 {a : Int} (h : (tx a).size ≤ 9) : -1000000000 < a ∧ a < 1000000000 := by
  have := small_of_size h
  omega

set_option maxRecDepth 100000 in
set_option maxHeartbeats 1600000 in
theorem wadd_any (a b : Int) (ha : Za a) (hb : Za b) (w : World) (hG : GOk w) :
    Calls Tryz.prog 121 #[.string (tx a), .string (tx b)] w fun e w' => e = .returned (.string (tx (a + b))) ∧ Below w.heap.size w w' := by
  obtain ⟨p, fp, hp, LA'⟩ := little_any18 a ha
  obtain ⟨q, fq, hq, LB'⟩ := little_any18 b hb
  have LA := Lib.hid LA'
  have LB := Lib.hid LB'
  have PA := Lib.hid (fun W => split_any a ha.sz W)
  have PB := Lib.hid (fun W => split_any b hb.sz W)
  have DC := Lib.hid (fun W => dcompare_any a.natAbs b.natAbs (Nat.le_trans ha.nat (by decide)) (Nat.le_trans hb.nat (by decide)) W)
  have DA := Lib.hid (fun W (hg : GOk W) => dadd_any a.natAbs b.natAbs ha.zn hb.zn W hg)
  have DS := Lib.hid (fun (h : b.natAbs ≤ a.natAbs) W (hg : GOk W) => dsub_any a.natAbs b.natAbs ha.zn hb.zn h W hg)
  have DR := Lib.hid (fun (h : a.natAbs ≤ b.natAbs) W (hg : GOk W) => dsub_any b.natAbs a.natAbs hb.zn ha.zn h W hg)
  have J1 := Lib.hid (fun n W => join_any n (a.natAbs + b.natAbs) (Nat.le_trans (tn_add _ _ 40000000000 ha.nat hb.nat) (by decide)) W)
  have J2 := Lib.hid (fun n W => join_any n (a.natAbs - b.natAbs) (Nat.le_trans (tn_le (Nat.sub_le _ _)) (Nat.le_trans ha.nat (by decide))) W)
  have J3 := Lib.hid (fun n W => join_any n (b.natAbs - a.natAbs) (Nat.le_trans (tn_le (Nat.sub_le _ _)) (Nat.le_trans hb.nat (by decide))) W)
  clear LA' LB' ha hb
  by_cases hpq : fp = true ∧ fq = true
  · obtain ⟨rfl, rfl⟩ := hpq
    obtain ⟨rfl, h1⟩ := hp rfl
    obtain ⟨rfl, h2⟩ := hq rfl
    obtain ⟨a0, a1⟩ := i64_18 h1
    obtain ⟨b0, b1⟩ := i64_18 h2
    have O := Lib.hid (fun W (hg : GOk W) => of_any (p + q) (by unfold I64; omega) W hg)
    clear h1 h2 hp hq DC DA DS DR J1 J2 J3 PA PB
    obtain ⟨x, hx⟩ : ∃ x, x = tx p := ⟨_, rfl⟩
    obtain ⟨y, hy⟩ : ∃ y, y = tx q := ⟨_, rfl⟩
    rw [← hx] at LA ⊢
    rw [← hy] at LB ⊢
    clear hx hy
    go_enter Tryz.func121, Tryz.ntmps121
    go_wp2_with (first
      | (go_at_call 90; have _t := hb1; refine (LB.out _).mono ?_; rintro e w2 ⟨rfl, hb2⟩)
      | (go_at_call 90; refine (LA.out _).mono ?_; rintro e w1 ⟨rfl, hb1⟩)
      | (go_at_call 54; refine (O.out _ ((hG.below hb1).below hb2)).mono ?_; rintro e w3 ⟨rfl, hb3⟩))
    go_ret
    exact ⟨rfl, nb_trans hb1 (nb_trans hb2 hb3)⟩
  · obtain ⟨n, hn⟩ : ∃ n, n = decide (a < 0) := ⟨_, rfl⟩
    obtain ⟨m, hm⟩ : ∃ m, m = decide (b < 0) := ⟨_, rfl⟩
    have R1 : Hid (n = m → (if n = true then -((a.natAbs + b.natAbs : Nat) : Int) else ((a.natAbs + b.natAbs : Nat) : Int)) = a + b) := Lib.hid (by
      intro h
      rw [hn, hm] at h
      have h' := decide_eq_decide.1 h
      rw [hn]
      by_cases h0 : a < 0
      · rw [decide_eq_true h0, if_pos rfl]
        have := h'.1 h0
        omega
      · rw [decide_eq_false h0, if_neg (by decide)]
        have : ¬ b < 0 := fun h => h0 (h'.2 h)
        omega)
    have R2 : Hid (n ≠ m → b.natAbs ≤ a.natAbs → (if n = true then -((a.natAbs - b.natAbs : Nat) : Int) else ((a.natAbs - b.natAbs : Nat) : Int)) = a + b) := Lib.hid (by
      intro h hle
      rw [hn]
      by_cases h0 : a < 0
      · rw [decide_eq_true h0, if_pos rfl]
        have : ¬ b < 0 := fun h2 => h (by rw [hn, hm, decide_eq_true h0, decide_eq_true h2])
        omega
      · rw [decide_eq_false h0, if_neg (by decide)]
        have : b < 0 := Decidable.byContradiction (fun h2 => h (by rw [hn, hm, decide_eq_false h0, decide_eq_false h2]))
        omega)
    have R3 : Hid (n ≠ m → a.natAbs ≤ b.natAbs → (if m = true then -((b.natAbs - a.natAbs : Nat) : Int) else ((b.natAbs - a.natAbs : Nat) : Int)) = a + b) := Lib.hid (by
      intro h hle
      rw [hm]
      by_cases h0 : b < 0
      · rw [decide_eq_true h0, if_pos rfl]
        have : ¬ a < 0 := fun h2 => h (by rw [hn, hm, decide_eq_true h0, decide_eq_true h2])
        omega
      · rw [decide_eq_false h0, if_neg (by decide)]
        have : a < 0 := Decidable.byContradiction (fun h2 => h (by rw [hn, hm, decide_eq_false h0, decide_eq_false h2]))
        omega)
    have hcm : Hid ((cmp (a.natAbs : Int) b.natAbs < 0 → a.natAbs ≤ b.natAbs) ∧ (¬ cmp (a.natAbs : Int) b.natAbs < 0 → b.natAbs ≤ a.natAbs)) := Lib.hid (by
      rcases Int.lt_trichotomy (a.natAbs : Int) b.natAbs with h | h | h
      · rw [cmp_lt h]; exact ⟨fun _ => by omega, fun h => absurd (by decide) h⟩
      · rw [cmp_eq h]; exact ⟨fun h => absurd h (by decide), fun _ => by omega⟩
      · rw [cmp_gt h]; exact ⟨fun h => absurd h (by decide), fun _ => by omega⟩)
    rw [← hn] at PA
    rw [← hm] at PB
    obtain ⟨cc, hcc⟩ : ∃ cc, cc = cmp (a.natAbs : Int) b.natAbs := ⟨_, rfl⟩
    rw [← hcc] at DC hcm
    obtain ⟨x, hx⟩ : ∃ x, x = tx a := ⟨_, rfl⟩
    obtain ⟨y, hy⟩ : ∃ y, y = tx b := ⟨_, rfl⟩
    obtain ⟨u, hu⟩ : ∃ u, u = tn a.natAbs := ⟨_, rfl⟩
    obtain ⟨v, hv⟩ : ∃ v, v = tn b.natAbs := ⟨_, rfl⟩
    rw [← hx] at LA PA ⊢
    rw [← hy] at LB PB ⊢
    rw [← hu] at PA DC DA DS DR
    rw [← hv] at PB DC DA DS DR
    obtain ⟨z1, hz1⟩ : ∃ z, z = tn (a.natAbs + b.natAbs) := ⟨_, rfl⟩
    obtain ⟨z2, hz2⟩ : ∃ z, z = tn (a.natAbs - b.natAbs) := ⟨_, rfl⟩
    obtain ⟨z3, hz3⟩ : ∃ z, z = tn (b.natAbs - a.natAbs) := ⟨_, rfl⟩
    rw [← hz1] at DA J1
    rw [← hz2] at DS J2
    rw [← hz3] at DR J3
    clear hn hm hcc hx hy hu hv hp hq hz1 hz2 hz3
    by_cases hnm : n = m
    · subst hnm
      have R := R1.out rfl
      have J := Lib.hid (fun W => J1.out n W)
      rw [R] at J
      have HJ := J
      clear R1 R2 R3 R J J1 J2 J3
      rcases Bool.eq_false_or_eq_true fp with hfp | hfp
      · subst hfp
        obtain rfl : fq = false := by
          rcases Bool.eq_false_or_eq_true fq with h | h
          · exact absurd ⟨rfl, h⟩ hpq
          · exact h
        clear hpq
        go_enter Tryz.func121, Tryz.ntmps121
        go_wp2_with (first
          | (go_at_call 90; have _t := hb0; refine (LB.out _).mono ?_; rintro e w1 ⟨rfl, hb1⟩)
          | (go_at_call 90; refine (LA.out _).mono ?_; rintro e w0 ⟨rfl, hb0⟩)
          | (go_at_call 91; have _t := hb2; refine (PB.out _).mono ?_; rintro e w3 ⟨rfl, hb3⟩)
          | (go_at_call 91; refine (PA.out _).mono ?_; rintro e w2 ⟨rfl, hb2⟩)
          | (go_at_call 93; refine (DA.out _ ((((hG.below hb0).below hb1).below hb2).below hb3)).mono ?_; rintro e w5 ⟨rfl, hb5⟩; have hb4 := nb_refl w3)
          | (go_at_call 95; refine (HJ.out _).mono ?_; rintro e w6 ⟨rfl, hb6⟩))
        go_ret
        exact ⟨rfl, nb_trans hb0 (nb_trans hb1 (nb_trans hb2 (nb_trans hb3 (nb_trans hb4 (nb_trans hb5 hb6)))))⟩
      · subst hfp
        clear hpq
        go_enter Tryz.func121, Tryz.ntmps121
        go_wp2_with (first
          | (go_at_call 90; refine (LA.out _).mono ?_; rintro e w1 ⟨rfl, hb1⟩; have hb0 := nb_refl w)
          | (go_at_call 91; have _t := hb2; refine (PB.out _).mono ?_; rintro e w3 ⟨rfl, hb3⟩)
          | (go_at_call 91; refine (PA.out _).mono ?_; rintro e w2 ⟨rfl, hb2⟩)
          | (go_at_call 93; refine (DA.out _ ((((hG.below hb0).below hb1).below hb2).below hb3)).mono ?_; rintro e w5 ⟨rfl, hb5⟩; have hb4 := nb_refl w3)
          | (go_at_call 95; refine (HJ.out _).mono ?_; rintro e w6 ⟨rfl, hb6⟩))
        go_ret
        exact ⟨rfl, nb_trans hb0 (nb_trans hb1 (nb_trans hb2 (nb_trans hb3 (nb_trans hb4 (nb_trans hb5 hb6)))))⟩
    · have hnm' : (n == m) = false := by rw [beq_eq_false_iff_ne]; exact hnm
      by_cases hc : cc < 0
      · have HJ := Lib.hid (fun W => J3.out m W)
        have R := R3.out hnm (hcm.out.1 hc)
        rw [R] at HJ
        have HD := Lib.hid (DR.out (hcm.out.1 hc))
        clear R R1 R2 R3 J1 J2 J3 DS DR
        rcases Bool.eq_false_or_eq_true fp with hfp | hfp
        · subst hfp
          obtain rfl : fq = false := by
            rcases Bool.eq_false_or_eq_true fq with h | h
            · exact absurd ⟨rfl, h⟩ hpq
            · exact h
          clear hpq
          go_enter Tryz.func121, Tryz.ntmps121
          go_wp2_with (first
            | (go_at_call 90; have _t := hb0; refine (LB.out _).mono ?_; rintro e w1 ⟨rfl, hb1⟩)
            | (go_at_call 90; refine (LA.out _).mono ?_; rintro e w0 ⟨rfl, hb0⟩)
            | (go_at_call 91; have _t := hb2; refine (PB.out _).mono ?_; rintro e w3 ⟨rfl, hb3⟩)
            | (go_at_call 91; refine (PA.out _).mono ?_; rintro e w2 ⟨rfl, hb2⟩)
            | (go_at_call 139; refine (DC.out _).mono ?_; rintro e w4 ⟨rfl, hb4⟩)
            | (go_at_call 94; refine (HD.out _ (((((hG.below hb0).below hb1).below hb2).below hb3).below hb4)).mono ?_; rintro e w5 ⟨rfl, hb5⟩)
            | (go_at_call 95; refine (HJ.out _).mono ?_; rintro e w6 ⟨rfl, hb6⟩))
          go_ret
          exact ⟨rfl, nb_trans hb0 (nb_trans hb1 (nb_trans hb2 (nb_trans hb3 (nb_trans hb4 (nb_trans hb5 hb6)))))⟩
        · subst hfp
          clear hpq
          go_enter Tryz.func121, Tryz.ntmps121
          go_wp2_with (first
            | (go_at_call 90; refine (LA.out _).mono ?_; rintro e w1 ⟨rfl, hb1⟩; have hb0 := nb_refl w)
            | (go_at_call 91; have _t := hb2; refine (PB.out _).mono ?_; rintro e w3 ⟨rfl, hb3⟩)
            | (go_at_call 91; refine (PA.out _).mono ?_; rintro e w2 ⟨rfl, hb2⟩)
            | (go_at_call 139; refine (DC.out _).mono ?_; rintro e w4 ⟨rfl, hb4⟩)
            | (go_at_call 94; refine (HD.out _ (((((hG.below hb0).below hb1).below hb2).below hb3).below hb4)).mono ?_; rintro e w5 ⟨rfl, hb5⟩)
            | (go_at_call 95; refine (HJ.out _).mono ?_; rintro e w6 ⟨rfl, hb6⟩))
          go_ret
          exact ⟨rfl, nb_trans hb0 (nb_trans hb1 (nb_trans hb2 (nb_trans hb3 (nb_trans hb4 (nb_trans hb5 hb6)))))⟩
      · have HJ := Lib.hid (fun W => J2.out n W)
        have R := R2.out hnm (hcm.out.2 hc)
        rw [R] at HJ
        have HD := Lib.hid (DS.out (hcm.out.2 hc))
        clear R R1 R2 R3 J1 J2 J3 DS DR
        rcases Bool.eq_false_or_eq_true fp with hfp | hfp
        · subst hfp
          obtain rfl : fq = false := by
            rcases Bool.eq_false_or_eq_true fq with h | h
            · exact absurd ⟨rfl, h⟩ hpq
            · exact h
          clear hpq
          go_enter Tryz.func121, Tryz.ntmps121
          go_wp2_with (first
            | (go_at_call 90; have _t := hb0; refine (LB.out _).mono ?_; rintro e w1 ⟨rfl, hb1⟩)
            | (go_at_call 90; refine (LA.out _).mono ?_; rintro e w0 ⟨rfl, hb0⟩)
            | (go_at_call 91; have _t := hb2; refine (PB.out _).mono ?_; rintro e w3 ⟨rfl, hb3⟩)
            | (go_at_call 91; refine (PA.out _).mono ?_; rintro e w2 ⟨rfl, hb2⟩)
            | (go_at_call 139; refine (DC.out _).mono ?_; rintro e w4 ⟨rfl, hb4⟩)
            | (go_at_call 94; refine (HD.out _ (((((hG.below hb0).below hb1).below hb2).below hb3).below hb4)).mono ?_; rintro e w5 ⟨rfl, hb5⟩)
            | (go_at_call 95; refine (HJ.out _).mono ?_; rintro e w6 ⟨rfl, hb6⟩))
          go_ret
          exact ⟨rfl, nb_trans hb0 (nb_trans hb1 (nb_trans hb2 (nb_trans hb3 (nb_trans hb4 (nb_trans hb5 hb6)))))⟩
        · subst hfp
          clear hpq
          go_enter Tryz.func121, Tryz.ntmps121
          go_wp2_with (first
            | (go_at_call 90; refine (LA.out _).mono ?_; rintro e w1 ⟨rfl, hb1⟩; have hb0 := nb_refl w)
            | (go_at_call 91; have _t := hb2; refine (PB.out _).mono ?_; rintro e w3 ⟨rfl, hb3⟩)
            | (go_at_call 91; refine (PA.out _).mono ?_; rintro e w2 ⟨rfl, hb2⟩)
            | (go_at_call 139; refine (DC.out _).mono ?_; rintro e w4 ⟨rfl, hb4⟩)
            | (go_at_call 94; refine (HD.out _ (((((hG.below hb0).below hb1).below hb2).below hb3).below hb4)).mono ?_; rintro e w5 ⟨rfl, hb5⟩)
            | (go_at_call 95; refine (HJ.out _).mono ?_; rintro e w6 ⟨rfl, hb6⟩))
          go_ret
          exact ⟨rfl, nb_trans hb0 (nb_trans hb1 (nb_trans hb2 (nb_trans hb3 (nb_trans hb4 (nb_trans hb5 hb6)))))⟩
end Go.Proofs.YtmfkpmepgbjmkaaGreatDoor
