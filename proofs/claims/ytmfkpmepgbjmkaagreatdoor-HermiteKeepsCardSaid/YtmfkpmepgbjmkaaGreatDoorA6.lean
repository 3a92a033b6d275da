/-
  WALKS: whole's Compare, Add, Sub, Mul.
  WALKS: whole's Add, Sub, Mul.
  WALKS: whole's Sub and Mul.
  WALKS: whole's DivMod (downward).
  WALKS: whole's DivMod, the long numbers.
-/
import Derived.Test.YtmfkpmepgbjmkaaGreatDoorA5
set_option linter.unusedVariables false
set_option linter.unusedSimpArgs false
namespace Go.Proofs.YtmfkpmepgbjmkaaGreatDoor
open Go.RowKit

/-- A size at which no walk of an integer's text is short of room. -/
def Za (a : Int) : Prop := (tx a).size ≤ 40000000000
theorem Za.sz {a : Int} (h : Za a) : Sz a := by unfold Za at h; unfold Sz; omega
theorem Za.zn {a : Int} (h : Za a) : Zn a.natAbs := by have := nat_size a; unfold Za at h; unfold Zn; omega
theorem Za.nat {a : Int} (h : Za a) : (tn a.natAbs).size ≤ 40000000000 := by have := nat_size a; unfold Za at h; omega
theorem tn_add (u v k : Nat) (hu : (tn u).size ≤ k) (hv : (tn v).size ≤ k) : (tn (u + v)).size ≤ k + 1 := by
  have h1 := short_of hu
  have h2 := short_of hv
  rw [tn_size]
  apply nDigits_le _ _ _ (by omega)
  rw [Nat.pow_succ]
  omega
theorem tn_mul (u v k l : Nat) (hu : (tn u).size ≤ k) (hv : (tn v).size ≤ l) (hk : 1 ≤ k) : (tn (u * v)).size ≤ k + l := by
  have h1 := short_of hu
  have h2 := short_of hv
  rw [tn_size]
  apply nDigits_le _ _ _ (by omega)
  rw [Nat.pow_add]
  exact Nat.mul_lt_mul'' h1 h2
theorem tn_le {u v : Nat} (h : u ≤ v) : (tn u).size ≤ (tn v).size := by
  rw [tn_size, tn_size]
  exact nDigits_mono h

theorem wcompare_any (a b : Int) (ha : Za a) (hb : Za b) (w : World) :
    Calls Tryz.prog 122 #[.string (tx a), .string (tx b)] w fun e w' => e = .returned (.int .i64 (cmp a b)) ∧ Below w.heap.size w w' := by
  have SA := Lib.hid (fun W => sign_any a ha.sz W)
  have SB := Lib.hid (fun W => sign_any b hb.sz W)
  have PA := Lib.hid (fun W => split_any a ha.sz W)
  have PB := Lib.hid (fun W => split_any b hb.sz W)
  have C1 := Lib.hid (fun W => dcompare_any a.natAbs b.natAbs (Nat.le_trans ha.nat (by decide)) (Nat.le_trans hb.nat (by decide)) W)
  have C2 := Lib.hid (fun W => dcompare_any b.natAbs a.natAbs (Nat.le_trans hb.nat (by decide)) (Nat.le_trans ha.nat (by decide)) W)
  obtain ⟨x, hx⟩ : ∃ x, x = tx a := ⟨_, rfl⟩
  obtain ⟨y, hy⟩ : ∃ y, y = tx b := ⟨_, rfl⟩
  obtain ⟨u, hu⟩ : ∃ u, u = tn a.natAbs := ⟨_, rfl⟩
  obtain ⟨v, hv⟩ : ∃ v, v = tn b.natAbs := ⟨_, rfl⟩
  rw [← hx] at SA PA ⊢
  rw [← hy] at SB PB ⊢
  rw [← hu] at PA C1 C2
  rw [← hv] at PB C1 C2
  clear hx hy hu hv ha hb
  by_cases hs : a.sign = b.sign
  · obtain ⟨s, hsa⟩ : ∃ s, s = a.sign := ⟨_, rfl⟩
    rw [← hsa] at SA
    rw [← hs, ← hsa] at SB
    by_cases hn : a < 0
    · have hr : Hid (cmp (b.natAbs : Int) a.natAbs = cmp a b) := Lib.hid (by
        have : b < 0 := by rw [← Int.sign_eq_neg_one_iff_neg, ← hs, Int.sign_eq_neg_one_of_neg hn]
        unfold cmp
        split <;> split <;> (try split) <;> (try split) <;> omega)
      rw [decide_eq_true hn] at PA
      clear hs hsa hn
      go_enter Tryz.func122, Tryz.ntmps122
      go_wp2_with (first
        | (go_at_call 82; have _t := hb1; refine (SB.out _).mono ?_; rintro e w2 ⟨rfl, hb2⟩)
        | (go_at_call 82; refine (SA.out _).mono ?_; rintro e w1 ⟨rfl, hb1⟩)
        | (go_at_call 91; have _t := hb3; refine (PB.out _).mono ?_; rintro e w4 ⟨rfl, hb4⟩)
        | (go_at_call 91; refine (PA.out _).mono ?_; rintro e w3 ⟨rfl, hb3⟩)
        | (go_at_call 139; refine (C2.out _).mono ?_; rintro e w5 ⟨rfl, hb5⟩))
      go_ret
      exact ⟨by rw [hr.out]; rfl, nb_trans hb1 (nb_trans hb2 (nb_trans hb3 (nb_trans hb4 hb5)))⟩
    · have hr : Hid (cmp (a.natAbs : Int) b.natAbs = cmp a b) := Lib.hid (by
        have : ¬ b < 0 := fun h => hn (by rw [← Int.sign_eq_neg_one_iff_neg, hs, Int.sign_eq_neg_one_of_neg h])
        unfold cmp
        split <;> split <;> (try split) <;> (try split) <;> omega)
      rw [decide_eq_false hn] at PA
      clear hs hsa hn
      go_enter Tryz.func122, Tryz.ntmps122
      go_wp2_with (first
        | (go_at_call 82; have _t := hb1; refine (SB.out _).mono ?_; rintro e w2 ⟨rfl, hb2⟩)
        | (go_at_call 82; refine (SA.out _).mono ?_; rintro e w1 ⟨rfl, hb1⟩)
        | (go_at_call 91; have _t := hb3; refine (PB.out _).mono ?_; rintro e w4 ⟨rfl, hb4⟩)
        | (go_at_call 91; refine (PA.out _).mono ?_; rintro e w3 ⟨rfl, hb3⟩)
        | (go_at_call 139; refine (C1.out _).mono ?_; rintro e w5 ⟨rfl, hb5⟩))
      go_ret
      exact ⟨by rw [hr.out]; rfl, nb_trans hb1 (nb_trans hb2 (nb_trans hb3 (nb_trans hb4 hb5)))⟩
  · obtain ⟨s, hsa⟩ : ∃ s, s = a.sign := ⟨_, rfl⟩
    obtain ⟨t, htb⟩ : ∃ t, t = b.sign := ⟨_, rfl⟩
    have hst : (s != t) = true := by rw [hsa, htb, bne_iff_ne]; exact hs
    have hr : Hid ((s < t → cmp a b = -1) ∧ (¬ s < t → cmp a b = 1)) := Lib.hid (by
      have h3 := Int.lt_trichotomy a 0
      have h4 := Int.lt_trichotomy b 0
      constructor
      · intro h
        apply cmp_lt
        rw [hsa, htb] at h
        rcases h3 with h3 | h3 | h3 <;> rcases h4 with h4 | h4 | h4 <;>
          (first | (subst h3) | skip) <;> (first | (subst h4) | skip) <;>
          (first | rw [Int.sign_eq_neg_one_of_neg h3] at h | rw [Int.sign_eq_one_of_pos h3] at h | skip) <;>
          (first | rw [Int.sign_eq_neg_one_of_neg h4] at h | rw [Int.sign_eq_one_of_pos h4] at h | skip) <;>
          simp at h <;> omega
      · intro h
        apply cmp_gt
        rw [hsa, htb] at h
        rcases h3 with h3 | h3 | h3 <;> rcases h4 with h4 | h4 | h4 <;>
          (first | (subst h3) | skip) <;> (first | (subst h4) | skip) <;>
          (first | rw [Int.sign_eq_neg_one_of_neg h3] at h hs | rw [Int.sign_eq_one_of_pos h3] at h hs | skip) <;>
          (first | rw [Int.sign_eq_neg_one_of_neg h4] at h hs | rw [Int.sign_eq_one_of_pos h4] at h hs | skip) <;>
          simp at h hs <;> omega)
    rw [← hsa] at SA
    rw [← htb] at SB
    clear hs hsa htb
    by_cases hlt : s < t
    · go_enter Tryz.func122, Tryz.ntmps122
      go_wp2_with (first
        | (go_at_call 82; have _t := hb1; refine (SB.out _).mono ?_; rintro e w2 ⟨rfl, hb2⟩)
        | (go_at_call 82; refine (SA.out _).mono ?_; rintro e w1 ⟨rfl, hb1⟩))
      go_ret
      exact ⟨by rw [hr.out.1 hlt]; rfl, nb_trans hb1 hb2⟩
    · go_enter Tryz.func122, Tryz.ntmps122
      go_wp2_with (first
        | (go_at_call 82; have _t := hb1; refine (SB.out _).mono ?_; rintro e w2 ⟨rfl, hb2⟩)
        | (go_at_call 82; refine (SA.out _).mono ?_; rintro e w1 ⟨rfl, hb1⟩))
      go_ret
      exact ⟨by rw [hr.out.2 hlt]; rfl, nb_trans hb1 hb2⟩
end Go.Proofs.YtmfkpmepgbjmkaaGreatDoor

namespace Go.Proofs.YtmfkpmepgbjmkaaGreatDoor
open Go.RowKit

theorem little_any18 (a : Int) (ha : Za a) : ∃ (x : Int) (p : Bool), (p = true → x = a ∧ (tx a).size ≤ 18) ∧ ∀ W, Calls Tryz.prog 90 #[.string (tx a), .int .i64 18] W fun e w' => e = .returned (.tuple #[.int .i64 x, .bool p]) ∧ Below W.heap.size W w' := by
  by_cases h : (tx a).size ≤ 18
  · exact ⟨a, true, fun _ => ⟨rfl, h⟩, fun W => little_short a 18 (by omega) (by omega) W⟩
  · exact ⟨0, false, fun h => (by cases h), fun W => little_long (tx a) 18 (by omega) (by unfold Za at ha; omega) W⟩
theorem little_any9 (a : Int) (ha : Za a) : ∃ (x : Int) (p : Bool), (p = true → x = a ∧ (tx a).size ≤ 9) ∧ ∀ W, Calls Tryz.prog 90 #[.string (tx a), .int .i64 9] W fun e w' => e = .returned (.tuple #[.int .i64 x, .bool p]) ∧ Below W.heap.size W w' := by
  by_cases h : (tx a).size ≤ 9
  · exact ⟨a, true, fun _ => ⟨rfl, h⟩, fun W => little_short a 9 (by omega) (by omega) W⟩
  · exact ⟨0, false, fun h => (by cases h), fun W => little_long (tx a) 9 (by omega) (by unfold Za at ha; omega) W⟩

theorem i64_18 {a : Int} (h : (tx a).size ≤ 18) : -1000000000000000000 < a ∧ a < 1000000000000000000 := by
  have := small_of_size h
  omega
theorem i64_9 {a : Int} (h : (tx a).size ≤ 9) : -1000000000 < a ∧ a < 1000000000 := by
  have := small_of_size h
  omega

set_option maxRecDepth 100000 in
set_option maxHeartbeats 1600000 in
theorem wadd_any (a b : Int) (ha : Za a) (hb : Za b) (w : World) (hG : GOk w) :
    Calls Tryz.prog 121 #[.string (tx a), .string (tx b)] w fun e w' => e = .returned (.string (tx (a + b))) ∧ Below w.heap.size w w' := by
  obtain ⟨p, fp, hp, LA'⟩ := little_any18 a ha
  obtain ⟨q, fq, hq, LB'⟩ := little_any18 b hb
  have LA := Lib.hid LA'
  have LB := Lib.hid LB'
  have PA := Lib.hid (fun W => split_any a ha.sz W)
  have PB := Lib.hid (fun W => split_any b hb.sz W)
  have DC := Lib.hid (fun W => dcompare_any a.natAbs b.natAbs (Nat.le_trans ha.nat (by decide)) (Nat.le_trans hb.nat (by decide)) W)
  have DA := Lib.hid (fun W (hg : GOk W) => dadd_any a.natAbs b.natAbs ha.zn hb.zn W hg)
  have DS := Lib.hid (fun (h : b.natAbs ≤ a.natAbs) W (hg : GOk W) => dsub_any a.natAbs b.natAbs ha.zn hb.zn h W hg)
  have DR := Lib.hid (fun (h : a.natAbs ≤ b.natAbs) W (hg : GOk W) => dsub_any b.natAbs a.natAbs hb.zn ha.zn h W hg)
  have J1 := Lib.hid (fun n W => join_any n (a.natAbs + b.natAbs) (Nat.le_trans (tn_add _ _ 40000000000 ha.nat hb.nat) (by decide)) W)
  have J2 := Lib.hid (fun n W => join_any n (a.natAbs - b.natAbs) (Nat.le_trans (tn_le (Nat.sub_le _ _)) (Nat.le_trans ha.nat (by decide))) W)
  have J3 := Lib.hid (fun n W => join_any n (b.natAbs - a.natAbs) (Nat.le_trans (tn_le (Nat.sub_le _ _)) (Nat.le_trans hb.nat (by decide))) W)
  clear LA' LB' ha hb
  by_cases hpq : fp = true ∧ fq = true
  · obtain ⟨rfl, rfl⟩ := hpq
    obtain ⟨rfl, h1⟩ := hp rfl
    obtain ⟨rfl, h2⟩ := hq rfl
    obtain ⟨a0, a1⟩ := i64_18 h1
    obtain ⟨b0, b1⟩ := i64_18 h2
    have O := Lib.hid (fun W (hg : GOk W) => of_any (p + q) (by unfold I64; omega) W hg)
    clear h1 h2 hp hq DC DA DS DR J1 J2 J3 PA PB
    obtain ⟨x, hx⟩ : ∃ x, x = tx p := ⟨_, rfl⟩
    obtain ⟨y, hy⟩ : ∃ y, y = tx q := ⟨_, rfl⟩
    rw [← hx] at LA ⊢
    rw [← hy] at LB ⊢
    clear hx hy
    go_enter Tryz.func121, Tryz.ntmps121
    go_wp2_with (first
      | (go_at_call 90; have _t := hb1; refine (LB.out _).mono ?_; rintro e w2 ⟨rfl, hb2⟩)
      | (go_at_call 90; refine (LA.out _).mono ?_; rintro e w1 ⟨rfl, hb1⟩)
      | (go_at_call 54; refine (O.out _ ((hG.below hb1).below hb2)).mono ?_; rintro e w3 ⟨rfl, hb3⟩))
    go_ret
    exact ⟨rfl, nb_trans hb1 (nb_trans hb2 hb3)⟩
  · obtain ⟨n, hn⟩ : ∃ n, n = decide (a < 0) := ⟨_, rfl⟩
    obtain ⟨m, hm⟩ : ∃ m, m = decide (b < 0) := ⟨_, rfl⟩
    have R1 : Hid (n = m → (if n = true then -((a.natAbs + b.natAbs : Nat) : Int) else ((a.natAbs + b.natAbs : Nat) : Int)) = a + b) := Lib.hid (by
      intro h
      rw [hn, hm] at h
      have h' := decide_eq_decide.1 h
      rw [hn]
      by_cases h0 : a < 0
      · rw [decide_eq_true h0, if_pos rfl]
        have := h'.1 h0
        omega
      · rw [decide_eq_false h0, if_neg (by decide)]
        have : ¬ b < 0 := fun h => h0 (h'.2 h)
        omega)
    have R2 : Hid (n ≠ m → b.natAbs ≤ a.natAbs → (if n = true then -((a.natAbs - b.natAbs : Nat) : Int) else ((a.natAbs - b.natAbs : Nat) : Int)) = a + b) := Lib.hid (by
      intro h hle
      rw [hn]
      by_cases h0 : a < 0
      · rw [decide_eq_true h0, if_pos rfl]
        have : ¬ b < 0 := fun h2 => h (by rw [hn, hm, decide_eq_true h0, decide_eq_true h2])
        omega
      · rw [decide_eq_false h0, if_neg (by decide)]
        have : b < 0 := Decidable.byContradiction (fun h2 => h (by rw [hn, hm, decide_eq_false h0, decide_eq_false h2]))
        omega)
    have R3 : Hid (n ≠ m → a.natAbs ≤ b.natAbs → (if m = true then -((b.natAbs - a.natAbs : Nat) : Int) else ((b.natAbs - a.natAbs : Nat) : Int)) = a + b) := Lib.hid (by
      intro h hle
      rw [hm]
      by_cases h0 : b < 0
      · rw [decide_eq_true h0, if_pos rfl]
        have : ¬ a < 0 := fun h2 => h (by rw [hn, hm, decide_eq_true h0, decide_eq_true h2])
        omega
      · rw [decide_eq_false h0, if_neg (by decide)]
        have : a < 0 := Decidable.byContradiction (fun h2 => h (by rw [hn, hm, decide_eq_false h0, decide_eq_false h2]))
        omega)
    have hcm : Hid ((cmp (a.natAbs : Int) b.natAbs < 0 → a.natAbs ≤ b.natAbs) ∧ (¬ cmp (a.natAbs : Int) b.natAbs < 0 → b.natAbs ≤ a.natAbs)) := Lib.hid (by
      rcases Int.lt_trichotomy (a.natAbs : Int) b.natAbs with h | h | h
      · rw [cmp_lt h]; exact ⟨fun _ => by omega, fun h => absurd (by decide) h⟩
      · rw [cmp_eq h]; exact ⟨fun h => absurd h (by decide), fun _ => by omega⟩
      · rw [cmp_gt h]; exact ⟨fun h => absurd h (by decide), fun _ => by omega⟩)
    rw [← hn] at PA
    rw [← hm] at PB
    obtain ⟨cc, hcc⟩ : ∃ cc, cc = cmp (a.natAbs : Int) b.natAbs := ⟨_, rfl⟩
    rw [← hcc] at DC hcm
    obtain ⟨x, hx⟩ : ∃ x, x = tx a := ⟨_, rfl⟩
    obtain ⟨y, hy⟩ : ∃ y, y = tx b := ⟨_, rfl⟩
    obtain ⟨u, hu⟩ : ∃ u, u = tn a.natAbs := ⟨_, rfl⟩
    obtain ⟨v, hv⟩ : ∃ v, v = tn b.natAbs := ⟨_, rfl⟩
    rw [← hx] at LA PA ⊢
    rw [← hy] at LB PB ⊢
    rw [← hu] at PA DC DA DS DR
    rw [← hv] at PB DC DA DS DR
    obtain ⟨z1, hz1⟩ : ∃ z, z = tn (a.natAbs + b.natAbs) := ⟨_, rfl⟩
    obtain ⟨z2, hz2⟩ : ∃ z, z = tn (a.natAbs - b.natAbs) := ⟨_, rfl⟩
    obtain ⟨z3, hz3⟩ : ∃ z, z = tn (b.natAbs - a.natAbs) := ⟨_, rfl⟩
    rw [← hz1] at DA J1
    rw [← hz2] at DS J2
    rw [← hz3] at DR J3
    clear hn hm hcc hx hy hu hv hp hq hz1 hz2 hz3
    by_cases hnm : n = m
    · subst hnm
      have R := R1.out rfl
      have J := Lib.hid (fun W => J1.out n W)
      rw [R] at J
      have HJ := J
      clear R1 R2 R3 R J J1 J2 J3
      rcases Bool.eq_false_or_eq_true fp with hfp | hfp
      · subst hfp
        obtain rfl : fq = false := by
          rcases Bool.eq_false_or_eq_true fq with h | h
          · exact absurd ⟨rfl, h⟩ hpq
          · exact h
        clear hpq
        go_enter Tryz.func121, Tryz.ntmps121
        go_wp2_with (first
          | (go_at_call 90; have _t := hb0; refine (LB.out _).mono ?_; rintro e w1 ⟨rfl, hb1⟩)
          | (go_at_call 90; refine (LA.out _).mono ?_; rintro e w0 ⟨rfl, hb0⟩)
          | (go_at_call 91; have _t := hb2; refine (PB.out _).mono ?_; rintro e w3 ⟨rfl, hb3⟩)
          | (go_at_call 91; refine (PA.out _).mono ?_; rintro e w2 ⟨rfl, hb2⟩)
          | (go_at_call 93; refine (DA.out _ ((((hG.below hb0).below hb1).below hb2).below hb3)).mono ?_; rintro e w5 ⟨rfl, hb5⟩; have hb4 := nb_refl w3)
          | (go_at_call 95; refine (HJ.out _).mono ?_; rintro e w6 ⟨rfl, hb6⟩))
        go_ret
        exact ⟨rfl, nb_trans hb0 (nb_trans hb1 (nb_trans hb2 (nb_trans hb3 (nb_trans hb4 (nb_trans hb5 hb6)))))⟩
      · subst hfp
        clear hpq
        go_enter Tryz.func121, Tryz.ntmps121
        go_wp2_with (first
          | (go_at_call 90; refine (LA.out _).mono ?_; rintro e w1 ⟨rfl, hb1⟩; have hb0 := nb_refl w)
          | (go_at_call 91; have _t := hb2; refine (PB.out _).mono ?_; rintro e w3 ⟨rfl, hb3⟩)
          | (go_at_call 91; refine (PA.out _).mono ?_; rintro e w2 ⟨rfl, hb2⟩)
          | (go_at_call 93; refine (DA.out _ ((((hG.below hb0).below hb1).below hb2).below hb3)).mono ?_; rintro e w5 ⟨rfl, hb5⟩; have hb4 := nb_refl w3)
          | (go_at_call 95; refine (HJ.out _).mono ?_; rintro e w6 ⟨rfl, hb6⟩))
        go_ret
        exact ⟨rfl, nb_trans hb0 (nb_trans hb1 (nb_trans hb2 (nb_trans hb3 (nb_trans hb4 (nb_trans hb5 hb6)))))⟩
    · have hnm' : (n == m) = false := by rw [beq_eq_false_iff_ne]; exact hnm
      by_cases hc : cc < 0
      · have HJ := Lib.hid (fun W => J3.out m W)
        have R := R3.out hnm (hcm.out.1 hc)
        rw [R] at HJ
        have HD := Lib.hid (DR.out (hcm.out.1 hc))
        clear R R1 R2 R3 J1 J2 J3 DS DR
        rcases Bool.eq_false_or_eq_true fp with hfp | hfp
        · subst hfp
          obtain rfl : fq = false := by
            rcases Bool.eq_false_or_eq_true fq with h | h
            · exact absurd ⟨rfl, h⟩ hpq
            · exact h
          clear hpq
          go_enter Tryz.func121, Tryz.ntmps121
          go_wp2_with (first
            | (go_at_call 90; have _t := hb0; refine (LB.out _).mono ?_; rintro e w1 ⟨rfl, hb1⟩)
            | (go_at_call 90; refine (LA.out _).mono ?_; rintro e w0 ⟨rfl, hb0⟩)
            | (go_at_call 91; have _t := hb2; refine (PB.out _).mono ?_; rintro e w3 ⟨rfl, hb3⟩)
            | (go_at_call 91; refine (PA.out _).mono ?_; rintro e w2 ⟨rfl, hb2⟩)
            | (go_at_call 139; refine (DC.out _).mono ?_; rintro e w4 ⟨rfl, hb4⟩)
            | (go_at_call 94; refine (HD.out _ (((((hG.below hb0).below hb1).below hb2).below hb3).below hb4)).mono ?_; rintro e w5 ⟨rfl, hb5⟩)
            | (go_at_call 95; refine (HJ.out _).mono ?_; rintro e w6 ⟨rfl, hb6⟩))
          go_ret
          exact ⟨rfl, nb_trans hb0 (nb_trans hb1 (nb_trans hb2 (nb_trans hb3 (nb_trans hb4 (nb_trans hb5 hb6)))))⟩
        · subst hfp
          clear hpq
          go_enter Tryz.func121, Tryz.ntmps121
          go_wp2_with (first
            | (go_at_call 90; refine (LA.out _).mono ?_; rintro e w1 ⟨rfl, hb1⟩; have hb0 := nb_refl w)
            | (go_at_call 91; have _t := hb2; refine (PB.out _).mono ?_; rintro e w3 ⟨rfl, hb3⟩)
            | (go_at_call 91; refine (PA.out _).mono ?_; rintro e w2 ⟨rfl, hb2⟩)
            | (go_at_call 139; refine (DC.out _).mono ?_; rintro e w4 ⟨rfl, hb4⟩)
            | (go_at_call 94; refine (HD.out _ (((((hG.below hb0).below hb1).below hb2).below hb3).below hb4)).mono ?_; rintro e w5 ⟨rfl, hb5⟩)
            | (go_at_call 95; refine (HJ.out _).mono ?_; rintro e w6 ⟨rfl, hb6⟩))
          go_ret
          exact ⟨rfl, nb_trans hb0 (nb_trans hb1 (nb_trans hb2 (nb_trans hb3 (nb_trans hb4 (nb_trans hb5 hb6)))))⟩
      · have HJ := Lib.hid (fun W => J2.out n W)
        have R := R2.out hnm (hcm.out.2 hc)
        rw [R] at HJ
        have HD := Lib.hid (DS.out (hcm.out.2 hc))
        clear R R1 R2 R3 J1 J2 J3 DS DR
        rcases Bool.eq_false_or_eq_true fp with hfp | hfp
        · subst hfp
          obtain rfl : fq = false := by
            rcases Bool.eq_false_or_eq_true fq with h | h
            · exact absurd ⟨rfl, h⟩ hpq
            · exact h
          clear hpq
          go_enter Tryz.func121, Tryz.ntmps121
          go_wp2_with (first
            | (go_at_call 90; have _t := hb0; refine (LB.out _).mono ?_; rintro e w1 ⟨rfl, hb1⟩)
            | (go_at_call 90; refine (LA.out _).mono ?_; rintro e w0 ⟨rfl, hb0⟩)
            | (go_at_call 91; have _t := hb2; refine (PB.out _).mono ?_; rintro e w3 ⟨rfl, hb3⟩)
            | (go_at_call 91; refine (PA.out _).mono ?_; rintro e w2 ⟨rfl, hb2⟩)
            | (go_at_call 139; refine (DC.out _).mono ?_; rintro e w4 ⟨rfl, hb4⟩)
            | (go_at_call 94; refine (HD.out _ (((((hG.below hb0).below hb1).below hb2).below hb3).below hb4)).mono ?_; rintro e w5 ⟨rfl, hb5⟩)
            | (go_at_call 95; refine (HJ.out _).mono ?_; rintro e w6 ⟨rfl, hb6⟩))
          go_ret
          exact ⟨rfl, nb_trans hb0 (nb_trans hb1 (nb_trans hb2 (nb_trans hb3 (nb_trans hb4 (nb_trans hb5 hb6)))))⟩
        · subst hfp
          clear hpq
          go_enter Tryz.func121, Tryz.ntmps121
          go_wp2_with (first
            | (go_at_call 90; refine (LA.out _).mono ?_; rintro e w1 ⟨rfl, hb1⟩; have hb0 := nb_refl w)
            | (go_at_call 91; have _t := hb2; refine (PB.out _).mono ?_; rintro e w3 ⟨rfl, hb3⟩)
            | (go_at_call 91; refine (PA.out _).mono ?_; rintro e w2 ⟨rfl, hb2⟩)
            | (go_at_call 139; refine (DC.out _).mono ?_; rintro e w4 ⟨rfl, hb4⟩)
            | (go_at_call 94; refine (HD.out _ (((((hG.below hb0).below hb1).below hb2).below hb3).below hb4)).mono ?_; rintro e w5 ⟨rfl, hb5⟩)
            | (go_at_call 95; refine (HJ.out _).mono ?_; rintro e w6 ⟨rfl, hb6⟩))
          go_ret
          exact ⟨rfl, nb_trans hb0 (nb_trans hb1 (nb_trans hb2 (nb_trans hb3 (nb_trans hb4 (nb_trans hb5 hb6)))))⟩
end Go.Proofs.YtmfkpmepgbjmkaaGreatDoor

namespace Go.Proofs.YtmfkpmepgbjmkaaGreatDoor
open Go.RowKit

theorem wsub_any (a b : Int) (ha : Za a) (hb : Za b) (hb' : Za (-b)) (w : World) (hG : GOk w) :
    Calls Tryz.prog 126 #[.string (tx a), .string (tx b)] w fun e w' => e = .returned (.string (tx (a - b))) ∧ Below w.heap.size w w' := by
  have N := Lib.hid (fun W => neg_any b hb.sz W)
  have A := Lib.hid (fun W (hg : GOk W) => wadd_any a (-b) ha hb' W hg)
  rw [← Int.sub_eq_add_neg] at A
  obtain ⟨x, hx⟩ : ∃ x, x = tx a := ⟨_, rfl⟩
  obtain ⟨y, hy⟩ : ∃ y, y = tx b := ⟨_, rfl⟩
  obtain ⟨z, hz⟩ : ∃ z, z = tx (-b) := ⟨_, rfl⟩
  obtain ⟨r, hr⟩ : ∃ r, r = tx (a - b) := ⟨_, rfl⟩
  rw [← hx, ← hz, ← hr] at A
  rw [← hy, ← hz] at N
  rw [← hx, ← hy, ← hr]
  clear hx hy hz hr
  go_enter Tryz.func126, Tryz.ntmps126
  go_wp2_with (first
    | (go_at_call 124; refine (N.out _).mono ?_; rintro e w1 ⟨rfl, hb1⟩)
    | (go_at_call 121; refine (A.out _ (hG.below hb1)).mono ?_; rintro e w2 ⟨rfl, hb2⟩))
  go_ret
  exact ⟨rfl, nb_trans hb1 hb2⟩

theorem mul_i64 {p q : Int} (a0 : -1000000000 < p) (a1 : p < 1000000000) (b0 : -1000000000 < q) (b1 : q < 1000000000) : -1000000000000000000 < p * q ∧ p * q < 1000000000000000000 := by
  have h : (p * q).natAbs = p.natAbs * q.natAbs := Int.natAbs_mul p q
  have h1 : p.natAbs * q.natAbs ≤ 999999999 * 999999999 := Nat.mul_le_mul (by omega) (by omega)
  omega

set_option maxRecDepth 100000 in
set_option maxHeartbeats 1600000 in
theorem wmul_any (a b : Int) (ha : Za a) (hb : Za b) (w : World) (hG : GOk w) :
    Calls Tryz.prog 55 #[.string (tx a), .string (tx b)] w fun e w' => e = .returned (.string (tx (a * b))) ∧ Below w.heap.size w w' := by
  obtain ⟨p, fp, hp, LA'⟩ := little_any9 a ha
  obtain ⟨q, fq, hq, LB'⟩ := little_any9 b hb
  have LA := Lib.hid LA'
  have LB := Lib.hid LB'
  have PA := Lib.hid (fun W => split_any a ha.sz W)
  have PB := Lib.hid (fun W => split_any b hb.sz W)
  have DM := Lib.hid (fun W (hg : GOk W) => dmul_any a.natAbs b.natAbs ha.zn hb.zn W hg)
  have J := Lib.hid (fun n W => join_any n (a.natAbs * b.natAbs) (Nat.le_trans (tn_mul _ _ 40000000000 40000000000 ha.nat hb.nat (by decide)) (by decide)) W)
  clear LA' LB' ha hb
  by_cases hpq : fp = true ∧ fq = true
  · obtain ⟨rfl, rfl⟩ := hpq
    obtain ⟨rfl, h1⟩ := hp rfl
    obtain ⟨rfl, h2⟩ := hq rfl
    obtain ⟨a0, a1⟩ := i64_9 h1
    obtain ⟨b0, b1⟩ := i64_9 h2
    obtain ⟨m0, m1⟩ := mul_i64 a0 a1 b0 b1
    have O := Lib.hid (fun W (hg : GOk W) => of_any (p * q) (by unfold I64; omega) W hg)
    clear h1 h2 hp hq DM J PA PB
    obtain ⟨x, hx⟩ : ∃ x, x = tx p := ⟨_, rfl⟩
    obtain ⟨y, hy⟩ : ∃ y, y = tx q := ⟨_, rfl⟩
    rw [← hx] at LA ⊢
    rw [← hy] at LB ⊢
    clear hx hy
    go_enter Tryz.func55, Tryz.ntmps55
    go_wp2_with (first
      | (go_at_call 90; have _t := hb1; refine (LB.out _).mono ?_; rintro e w2 ⟨rfl, hb2⟩)
      | (go_at_call 90; refine (LA.out _).mono ?_; rintro e w1 ⟨rfl, hb1⟩)
      | (go_at_call 54; refine (O.out _ ((hG.below hb1).below hb2)).mono ?_; rintro e w3 ⟨rfl, hb3⟩))
    go_ret
    exact ⟨rfl, nb_trans hb1 (nb_trans hb2 hb3)⟩
  · obtain ⟨n, hn⟩ : ∃ n, n = decide (a < 0) := ⟨_, rfl⟩
    obtain ⟨m, hm⟩ : ∃ m, m = decide (b < 0) := ⟨_, rfl⟩
    have R : Hid (∀ t : Bool, t = (n != m) → (if t = true then -((a.natAbs * b.natAbs : Nat) : Int) else ((a.natAbs * b.natAbs : Nat) : Int)) = a * b) := Lib.hid (by
      intro t ht
      rw [ht, hn, hm, Int.natCast_mul]
      by_cases h0 : a < 0 <;> by_cases h1 : b < 0
      · rw [decide_eq_true h0, decide_eq_true h1, if_neg (by decide), show ((a.natAbs : Nat) : Int) = -a by omega, show ((b.natAbs : Nat) : Int) = -b by omega, Int.neg_mul_neg]
      · rw [decide_eq_true h0, decide_eq_false h1, if_pos (by decide), show ((a.natAbs : Nat) : Int) = -a by omega, show ((b.natAbs : Nat) : Int) = b by omega, Int.neg_mul, Int.neg_neg]
      · rw [decide_eq_false h0, decide_eq_true h1, if_pos (by decide), show ((a.natAbs : Nat) : Int) = a by omega, show ((b.natAbs : Nat) : Int) = -b by omega, Int.mul_neg, Int.neg_neg]
      · rw [decide_eq_false h0, decide_eq_false h1, if_neg (by decide), show ((a.natAbs : Nat) : Int) = a by omega, show ((b.natAbs : Nat) : Int) = b by omega])
    rw [← hn] at PA
    rw [← hm] at PB
    obtain ⟨t, ht⟩ : ∃ t, t = (n != m) := ⟨_, rfl⟩
    have HJ := Lib.hid (fun W => J.out t W)
    rw [R.out t ht] at HJ
    obtain ⟨x, hx⟩ : ∃ x, x = tx a := ⟨_, rfl⟩
    obtain ⟨y, hy⟩ : ∃ y, y = tx b := ⟨_, rfl⟩
    obtain ⟨u, hu⟩ : ∃ u, u = tn a.natAbs := ⟨_, rfl⟩
    obtain ⟨v, hv⟩ : ∃ v, v = tn b.natAbs := ⟨_, rfl⟩
    obtain ⟨z, hz⟩ : ∃ z, z = tn (a.natAbs * b.natAbs) := ⟨_, rfl⟩
    rw [← hx] at LA PA ⊢
    rw [← hy] at LB PB ⊢
    rw [← hu] at PA DM
    rw [← hv] at PB DM
    rw [← hz] at DM HJ
    rw [ht] at HJ
    clear hn hm hx hy hu hv hz hp hq R J ht
    rcases Bool.eq_false_or_eq_true fp with hfp | hfp
    · subst hfp
      obtain rfl : fq = false := by
        rcases Bool.eq_false_or_eq_true fq with h | h
        · exact absurd ⟨rfl, h⟩ hpq
        · exact h
      clear hpq
      go_enter Tryz.func55, Tryz.ntmps55
      go_wp2_with (first
        | (go_at_call 90; have _t := hb0; refine (LB.out _).mono ?_; rintro e w1 ⟨rfl, hb1⟩)
        | (go_at_call 90; refine (LA.out _).mono ?_; rintro e w0 ⟨rfl, hb0⟩)
        | (go_at_call 91; have _t := hb2; refine (PB.out _).mono ?_; rintro e w3 ⟨rfl, hb3⟩)
        | (go_at_call 91; refine (PA.out _).mono ?_; rintro e w2 ⟨rfl, hb2⟩)
        | (go_at_call 96; refine (DM.out _ ((((hG.below hb0).below hb1).below hb2).below hb3)).mono ?_; rintro e w5 ⟨rfl, hb5⟩)
        | (go_at_call 95; refine (HJ.out _).mono ?_; rintro e w6 ⟨rfl, hb6⟩))
      go_ret
      exact ⟨rfl, nb_trans hb0 (nb_trans hb1 (nb_trans hb2 (nb_trans hb3 (nb_trans hb5 hb6))))⟩
    · subst hfp
      clear hpq
      go_enter Tryz.func55, Tryz.ntmps55
      go_wp2_with (first
        | (go_at_call 90; refine (LA.out _).mono ?_; rintro e w1 ⟨rfl, hb1⟩)
        | (go_at_call 91; have _t := hb2; refine (PB.out _).mono ?_; rintro e w3 ⟨rfl, hb3⟩)
        | (go_at_call 91; refine (PA.out _).mono ?_; rintro e w2 ⟨rfl, hb2⟩)
        | (go_at_call 96; refine (DM.out _ (((hG.below hb1).below hb2).below hb3)).mono ?_; rintro e w5 ⟨rfl, hb5⟩)
        | (go_at_call 95; refine (HJ.out _).mono ?_; rintro e w6 ⟨rfl, hb6⟩))
      go_ret
      exact ⟨rfl, nb_trans hb1 (nb_trans hb2 (nb_trans hb3 (nb_trans hb5 hb6)))⟩
end Go.Proofs.YtmfkpmepgbjmkaaGreatDoor

namespace Go.Proofs.YtmfkpmepgbjmkaaGreatDoor
open Go.RowKit

/-- Quotient and remainder downward. -/
def Fdm (a b q r : Int) : Prop := a = b * q + r ∧ (0 ≤ r ∧ r < b ∨ b < r ∧ r ≤ 0)
def WdivPost (a b : Int) (w : World) (e : Ending) (w' : World) : Prop :=
  ∃ q r, Fdm a b q r ∧ e = .returned (.tuple #[.string (tx q), .string (tx r), .int .i64 0]) ∧ Below w.heap.size w w'

structure Tdm (X Y q r : Int) : Prop where
  eq : X = Y * q + r
  same : Y ≠ 0 → (0 ≤ X → 0 ≤ r) ∧ (X ≤ 0 → r ≤ 0)
  lt : Y ≠ 0 → r.natAbs < Y.natAbs
  le : Y ≠ 0 → q.natAbs ≤ X.natAbs
theorem tdm (X Y : Int) : Tdm X Y (X.tdiv Y) (X.tmod Y) := by
  refine ⟨(Int.mul_tdiv_add_tmod X Y).symm, fun h => ⟨fun h0 => Int.tmod_nonneg _ h0, fun h0 => ?_⟩, fun h => ?_, fun h => ?_⟩
  · have := Int.neg_tmod X Y
    have h2 := Int.tmod_nonneg Y (show 0 ≤ -X by omega)
    rw [this] at h2
    omega
  · rw [Int.natAbs_tmod]
    exact Nat.mod_lt _ (by omega)
  · rw [Int.natAbs_tdiv]
    exact Nat.div_le_self _ _

theorem fdm_adj {X Y q r : Int} (T : X = Y * q + r) (h3 : r.natAbs < Y.natAbs) (h1 : r ≠ 0) (h2 : (r < 0 ∧ ¬ Y < 0) ∨ (¬ r < 0 ∧ Y < 0)) : Fdm X Y (q - 1) (r + Y) := by
  refine ⟨?_, by omega⟩
  rw [T, Int.mul_sub]
  omega
theorem fdm_same {X Y q r : Int} (T : X = Y * q + r) (h3 : r.natAbs < Y.natAbs) (h2 : (r < 0 ∧ Y < 0) ∨ (¬ r < 0 ∧ ¬ Y < 0)) : Fdm X Y q r := ⟨T, by omega⟩
theorem fdm_zero {X Y q r : Int} (T : X = Y * q + r) (h0 : Y ≠ 0) (h2 : r = 0) : Fdm X Y q r := ⟨T, by omega⟩

set_option maxRecDepth 100000 in
set_option maxHeartbeats 1600000 in
theorem wdiv_short (p q : Int) (h1 : (tx p).size ≤ 18) (h2 : (tx q).size ≤ 18) (hq0 : q ≠ 0) (w : World) (hG : GOk w) :
    Calls Tryz.prog 53 #[.string (tx p), .string (tx q)] w (WdivPost p q w) := by
  have LA := Lib.hid (fun W => little_short p 18 (by omega) (by omega) W)
  have LB := Lib.hid (fun W => little_short q 18 (by omega) (by omega) W)
  obtain ⟨a0, a1⟩ := i64_18 h1
  obtain ⟨b0, b1⟩ := i64_18 h2
  have hnz : ((tx q).toList == [48]) = false := by rw [tx_eq_zero, decide_eq_false hq0]
  have T := tdm p q
  have t1 := T.eq
  have t2 := T.same hq0
  have t3 := T.lt hq0
  have t4 := T.le hq0
  have O := Lib.hid (fun n (h : I64 n) W (hg : GOk W) => of_any n h W hg)
  obtain ⟨x, hx⟩ : ∃ x, x = tx p := ⟨_, rfl⟩
  obtain ⟨y, hy⟩ : ∃ y, y = tx q := ⟨_, rfl⟩
  rw [← hx] at LA ⊢
  rw [← hy] at LB hnz ⊢
  clear hx hy h1 h2 T
  have q0 : -1000000000000000000 < p.tdiv q := by omega
  have q1 : p.tdiv q < 1000000000000000000 := by omega
  have r0 : -1000000000000000000 < p.tmod q := by omega
  have r1 : p.tmod q < 1000000000000000000 := by omega
  have T := Lib.hid (And.intro t1 (And.intro t2 (And.intro t3 t4)))
  clear t1 t2 t3 t4
  by_cases hz : p.tmod q = 0
  · have hz' : (p.tmod q != 0) = false := by rw [bne_eq_false_iff_eq]; exact hz
    have F := Lib.hid (fdm_zero T.out.1 hq0 hz)
    rw [hz] at F r0 r1
    go_enter Tryz.func53, Tryz.ntmps53
    go_wp2_with (first
      | (go_at_call 90; have _t := hb1; refine (LB.out _).mono ?_; rintro e w2 ⟨rfl, hb2⟩)
      | (go_at_call 90; refine (LA.out _).mono ?_; rintro e w1 ⟨rfl, hb1⟩))
    go_quiet (fail)
    go_wp2_with (first
      | (go_at_call 54; have _t := hb3; refine (O.out _ (by unfold I64; omega) _ (((hG.below hb1).below hb2).below (nb_drewN _ _) |>.below hb3)).mono ?_; rintro e w4 ⟨rfl, hb4⟩)
      | (go_at_call 54; refine (O.out _ (by unfold I64; omega) _ (((hG.below hb1).below hb2).below (nb_drewN _ _))).mono ?_; rintro e w3 ⟨rfl, hb3⟩))
    go_ret3
    exact ⟨_, _, F.out, rfl, nb_trans hb1 (nb_trans hb2 (nb_trans (nb_drewN _ _) (nb_trans hb3 hb4)))⟩
  · have hz' : (p.tmod q != 0) = true := by rw [bne_iff_ne]; exact hz
    by_cases hd : (p.tmod q < 0 ∧ ¬ q < 0) ∨ (¬ p.tmod q < 0 ∧ q < 0)
    · have F := Lib.hid (fdm_adj T.out.1 T.out.2.2.1 hz hd)
      have e2 : (!decide (p.tmod q < 0) == decide (q < 0)) = true := by
        rcases hd with ⟨h1, h2⟩ | ⟨h1, h2⟩
        · rw [decide_eq_true h1, decide_eq_false h2]; rfl
        · rw [decide_eq_false h1, decide_eq_true h2]; rfl
      go_enter Tryz.func53, Tryz.ntmps53
      go_wp2_with (first
        | (go_at_call 90; have _t := hb1; refine (LB.out _).mono ?_; rintro e w2 ⟨rfl, hb2⟩)
        | (go_at_call 90; refine (LA.out _).mono ?_; rintro e w1 ⟨rfl, hb1⟩))
      go_quiet (fail)
      go_wp2_with (first
        | (go_at_call 54; have _t := hb3; refine (O.out _ (by unfold I64; omega) _ (((hG.below hb1).below hb2).below (nb_drewN _ _) |>.below hb3)).mono ?_; rintro e w4 ⟨rfl, hb4⟩)
        | (go_at_call 54; refine (O.out _ (by unfold I64; omega) _ (((hG.below hb1).below hb2).below (nb_drewN _ _))).mono ?_; rintro e w3 ⟨rfl, hb3⟩))
      go_ret3
      exact ⟨_, _, F.out, rfl, nb_trans hb1 (nb_trans hb2 (nb_trans (nb_drewN _ _) (nb_trans hb3 hb4)))⟩
    · have F := Lib.hid (fdm_same T.out.1 T.out.2.2.1 (show (p.tmod q < 0 ∧ q < 0) ∨ (¬ p.tmod q < 0 ∧ ¬ q < 0) by omega))
      have e2 : (!decide (p.tmod q < 0) == decide (q < 0)) = false := by
        by_cases h1 : p.tmod q < 0
        · rw [decide_eq_true h1, decide_eq_true (by omega)]; rfl
        · rw [decide_eq_false h1, decide_eq_false (by omega)]; rfl
      go_enter Tryz.func53, Tryz.ntmps53
      go_wp2_with (first
        | (go_at_call 90; have _t := hb1; refine (LB.out _).mono ?_; rintro e w2 ⟨rfl, hb2⟩)
        | (go_at_call 90; refine (LA.out _).mono ?_; rintro e w1 ⟨rfl, hb1⟩))
      go_quiet (fail)
      go_wp2_with (first
        | (go_at_call 54; have _t := hb3; refine (O.out _ (by unfold I64; omega) _ (((hG.below hb1).below hb2).below (nb_drewN _ _) |>.below hb3)).mono ?_; rintro e w4 ⟨rfl, hb4⟩)
        | (go_at_call 54; refine (O.out _ (by unfold I64; omega) _ (((hG.below hb1).below hb2).below (nb_drewN _ _))).mono ?_; rintro e w3 ⟨rfl, hb3⟩))
      go_ret3
      exact ⟨_, _, F.out, rfl, nb_trans hb1 (nb_trans hb2 (nb_trans (nb_drewN _ _) (nb_trans hb3 hb4)))⟩
end Go.Proofs.YtmfkpmepgbjmkaaGreatDoor

namespace Go.Proofs.YtmfkpmepgbjmkaaGreatDoor
open Go.RowKit

def sg (n : Bool) (u : Nat) : Int := if n = true then -(u : Int) else u
theorem fdm_same_sign {a b : Int} {n : Bool} {Q R : Nat} (ha : a = sg n a.natAbs) (hb : b = sg n b.natAbs) (h : a.natAbs = b.natAbs * Q + R) (hR : R < b.natAbs) : Fdm a b (sg false Q) (sg n R) := by
  have h' : ((a.natAbs : Nat) : Int) = (b.natAbs : Int) * Q + R := by rw [h]; simp
  cases n
  · have e1 : a = (a.natAbs : Int) := ha
    have e2 : b = (b.natAbs : Int) := hb
    refine ⟨?_, by show 0 ≤ (R : Int) ∧ (R : Int) < b ∨ _; omega⟩
    show a = b * (Q : Int) + (R : Int)
    rw [e1, h', ← e2]
  · have e1 : a = -(a.natAbs : Int) := ha
    have e2 : b = -(b.natAbs : Int) := hb
    refine ⟨?_, by show _ ∨ b < -(R : Int) ∧ -(R : Int) ≤ 0; omega⟩
    show a = b * (Q : Int) + -(R : Int)
    rw [e1, h', e2]
    have : ((-(b.natAbs : Int)).natAbs : Int) = (b.natAbs : Int) := by omega
    rw [this]
    grind
theorem fdm_opp_zero {a b : Int} {n m : Bool} {Q R : Nat} (hnm : n ≠ m) (ha : a = sg n a.natAbs) (hb : b = sg m b.natAbs) (h : a.natAbs = b.natAbs * Q + R) (hR : R = 0) (hb0 : b ≠ 0) : Fdm a b (sg true Q) (sg m R) := by
  subst hR
  have h' : ((a.natAbs : Nat) : Int) = (b.natAbs : Int) * Q := by rw [h]; simp
  have e0 : sg m 0 = 0 := by cases m <;> rfl
  rw [e0]
  refine ⟨?_, by omega⟩
  show a = b * (-(Q : Int)) + 0
  cases n <;> cases m
  · exact absurd rfl hnm
  · have e1 : a = (a.natAbs : Int) := ha
    have e2 : b = -(b.natAbs : Int) := hb
    rw [e1, h']
    generalize (b.natAbs : Int) = v at *
    rw [e2]
    grind
  · have e1 : a = -(a.natAbs : Int) := ha
    have e2 : b = (b.natAbs : Int) := hb
    rw [e1, h']
    generalize (b.natAbs : Int) = v at *
    rw [e2]
    grind
  · exact absurd rfl hnm
theorem fdm_opp {a b : Int} {n m : Bool} {Q R : Nat} (hnm : n ≠ m) (ha : a = sg n a.natAbs) (hb : b = sg m b.natAbs) (h : a.natAbs = b.natAbs * Q + R) (hR : R < b.natAbs) (hR0 : 0 < R) : Fdm a b (sg true (Q + 1)) (sg m (b.natAbs - R)) := by
  have h' : ((a.natAbs : Nat) : Int) = (b.natAbs : Int) * Q + R := by rw [h]; simp
  have e3 : ((b.natAbs - R : Nat) : Int) = (b.natAbs : Int) - R := by omega
  cases n <;> cases m
  · exact absurd rfl hnm
  · have e1 : a = (a.natAbs : Int) := ha
    have e2 : b = -(b.natAbs : Int) := hb
    refine ⟨?_, by show _ ∨ b < -((b.natAbs - R : Nat) : Int) ∧ -((b.natAbs - R : Nat) : Int) ≤ 0; omega⟩
    show a = b * (-((Q + 1 : Nat) : Int)) + -((b.natAbs - R : Nat) : Int)
    rw [e3, e1, h', Int.natCast_add]
    generalize (b.natAbs : Int) = v at *
    rw [e2]
    grind
  · have e1 : a = -(a.natAbs : Int) := ha
    have e2 : b = (b.natAbs : Int) := hb
    refine ⟨?_, by show 0 ≤ ((b.natAbs - R : Nat) : Int) ∧ ((b.natAbs - R : Nat) : Int) < b ∨ _; omega⟩
    show a = b * (-((Q + 1 : Nat) : Int)) + ((b.natAbs - R : Nat) : Int)
    rw [e3, e1, h', Int.natCast_add]
    generalize (b.natAbs : Int) = v at *
    rw [e2]
    grind
  · exact absurd rfl hnm
theorem sg_abs (a : Int) : a = sg (decide (a < 0)) a.natAbs := by
  unfold sg
  by_cases h : a < 0
  · rw [decide_eq_true h, if_pos rfl]; omega
  · rw [decide_eq_false h, if_neg (by decide)]; omega

set_option maxRecDepth 100000 in
set_option maxHeartbeats 3200000 in
theorem wdiv_any (a b : Int) (ha : Za a) (hb : Za b) (hbz : b ≠ 0) (w : World) (hG : GOk w) :
    Calls Tryz.prog 53 #[.string (tx a), .string (tx b)] w (WdivPost a b w) := by
  obtain ⟨p, fp, hp, LA'⟩ := little_any18 a ha
  obtain ⟨q, fq, hq, LB'⟩ := little_any18 b hb
  have LA := Lib.hid LA'
  have LB := Lib.hid LB'
  by_cases hpq : fp = true ∧ fq = true
  · exact wdiv_short a b (hp hpq.1).2 (hq hpq.2).2 hbz w hG
  · have PA := Lib.hid (fun W => split_any a ha.sz W)
    have PB := Lib.hid (fun W => split_any b hb.sz W)
    have hv0 : 0 < b.natAbs := by omega
    have DM := Lib.hid (fun W (hg : GOk W) => ddivmod_any a.natAbs b.natAbs ha.zn hb.zn hv0 W hg)
    unfold DivModPost at DM
    have hR := Nat.mod_lt a.natAbs hv0
    have hD : a.natAbs = b.natAbs * (a.natAbs / b.natAbs) + a.natAbs % b.natAbs := (Nat.div_add_mod _ _).symm
    have hQs : (tn (a.natAbs / b.natAbs)).size ≤ 40000000000 := Nat.le_trans (tn_le (Nat.div_le_self _ _)) ha.nat
    have hRs : (tn (a.natAbs % b.natAbs)).size ≤ 40000000000 := Nat.le_trans (tn_le (Nat.le_of_lt hR)) hb.nat
    have h1s : (tn 1).size ≤ 40000000000 := by rw [tn_size, Lib.nDigits_small (by decide)]; decide
    have t1 : (⟨#[49]⟩ : ByteArray) = tn 1 := by decide +kernel
    have DA := Lib.hid (fun W (hg : GOk W) => dadd_any (a.natAbs / b.natAbs) 1 (by unfold Zn; omega) (by unfold Zn; omega) W hg)
    have DS := Lib.hid (fun W (hg : GOk W) => dsub_any b.natAbs (a.natAbs % b.natAbs) hb.zn (by unfold Zn; omega) (Nat.le_of_lt hR) W hg)
    rw [← t1] at DA
    have K1 := Lib.hid (fun t W => join_any t (a.natAbs / b.natAbs) (Nat.le_trans hQs (by decide)) W)
    have K2 := Lib.hid (fun t W => join_any t (a.natAbs % b.natAbs) (Nat.le_trans hRs (by decide)) W)
    have K3 := Lib.hid (fun t W => join_any t (a.natAbs / b.natAbs + 1) (Nat.le_trans (tn_add _ 1 40000000000 hQs h1s) (by decide)) W)
    have K4 := Lib.hid (fun t W => join_any t (b.natAbs - a.natAbs % b.natAbs) (Nat.le_trans (tn_le (Nat.sub_le _ _)) (Nat.le_trans hb.nat (by decide))) W)
    have hnz : ((tx b).toList == [48]) = false := by rw [tx_eq_zero, decide_eq_false hbz]
    have sa := sg_abs a
    have sb := sg_abs b
    have hrz := tn_zero (a.natAbs % b.natAbs)
    obtain ⟨n, hn⟩ : ∃ n, n = decide (a < 0) := ⟨_, rfl⟩
    obtain ⟨m, hm⟩ : ∃ m, m = decide (b < 0) := ⟨_, rfl⟩
    obtain ⟨Q, hQ⟩ : ∃ Q, Q = a.natAbs / b.natAbs := ⟨_, rfl⟩
    obtain ⟨R, hRR⟩ : ∃ R, R = a.natAbs % b.natAbs := ⟨_, rfl⟩
    rw [← hn] at PA sa
    rw [← hm] at PB sb
    rw [← hQ] at DM DA K1 K3 hD
    rw [← hRR] at DM DS K2 K4 hD hR hrz
    have F1 : Hid (n = m → Fdm a b (sg false Q) (sg m R)) := Lib.hid (fun h => by subst h; exact fdm_same_sign sa sb hD hR)
    have F2 : Hid (n ≠ m → R = 0 → Fdm a b (sg true Q) (sg m R)) := Lib.hid (fun h h0 => fdm_opp_zero h sa sb hD h0 hbz)
    have F3 : Hid (n ≠ m → 0 < R → Fdm a b (sg true (Q + 1)) (sg m (b.natAbs - R))) := Lib.hid (fun h h0 => fdm_opp h sa sb hD hR h0)
    have KK : Hid (∀ (t : Bool) (u : Nat), (if t = true then -(u : Int) else (u : Int)) = sg t u) := Lib.hid (fun t u => rfl)
    obtain ⟨x, hx⟩ : ∃ x, x = tx a := ⟨_, rfl⟩
    obtain ⟨y, hy⟩ : ∃ y, y = tx b := ⟨_, rfl⟩
    obtain ⟨u, hu⟩ : ∃ u, u = tn a.natAbs := ⟨_, rfl⟩
    obtain ⟨v, hv⟩ : ∃ v, v = tn b.natAbs := ⟨_, rfl⟩
    obtain ⟨zq, hzq⟩ : ∃ z, z = tn Q := ⟨_, rfl⟩
    obtain ⟨zr, hzr⟩ : ∃ z, z = tn R := ⟨_, rfl⟩
    obtain ⟨zq1, hzq1⟩ : ∃ z, z = tn (Q + 1) := ⟨_, rfl⟩
    obtain ⟨zr1, hzr1⟩ : ∃ z, z = tn (b.natAbs - R) := ⟨_, rfl⟩
    rw [← hx] at LA PA ⊢
    rw [← hy] at LB PB hnz ⊢
    rw [← hu] at PA DM
    rw [← hv] at PB DM DS
    rw [← hzq] at DM DA K1
    rw [← hzr] at DM DS K2 hrz
    rw [← hzq1] at DA K3
    rw [← hzr1] at DS K4
    clear hn hm hx hy hu hv hzq hzr hzq1 hzr1 hQ hRR hQs hRs h1s t1 hD sa sb hp hq LA' LB' ha hb hv0
    by_cases hnm : n = m
    · subst hnm
      have F := Lib.hid (F1.out rfl)
      have J1 : Hid (∀ W, Calls Tryz.prog 95 #[.bool false, .string zq] W fun e w' => e = .returned (.string (tx (sg false Q))) ∧ Below W.heap.size W w') := Lib.hid (fun W => K1.out false W)
      have J2 : Hid (∀ W, Calls Tryz.prog 95 #[.bool n, .string zr] W fun e w' => e = .returned (.string (tx (sg n R))) ∧ Below W.heap.size W w') := Lib.hid (fun W => K2.out n W)
      obtain ⟨s1, hs1⟩ : ∃ s, s = tx (sg false Q) := ⟨_, rfl⟩
      obtain ⟨s2, hs2⟩ : ∃ s, s = tx (sg n R) := ⟨_, rfl⟩
      rw [← hs1] at J1
      rw [← hs2] at J2
      have HS1 := Lib.hid hs1
      have HS2 := Lib.hid hs2
      clear hs1 hs2
      clear F1 F2 F3 K1 K2 K3 K4 DA DS hrz hR
      rcases Bool.eq_false_or_eq_true fp with hfp | hfp
      · subst hfp
        obtain rfl : fq = false := by
          rcases Bool.eq_false_or_eq_true fq with h | h
          · exact absurd ⟨rfl, h⟩ hpq
          · exact h
        clear hpq
        go_enter Tryz.func53, Tryz.ntmps53
        go_wp2_with (first
          | (go_at_call 90; have _t := hb0; refine (LB.out _).mono ?_; rintro e w1 ⟨rfl, hb1⟩)
          | (go_at_call 90; refine (LA.out _).mono ?_; rintro e w0 ⟨rfl, hb0⟩)
          | (go_at_call 91; have _t := hb2; refine (PB.out _).mono ?_; rintro e w3 ⟨rfl, hb3⟩)
          | (go_at_call 91; refine (PA.out _).mono ?_; rintro e w2 ⟨rfl, hb2⟩)
          | (go_at_call 92; refine (DM.out _ ((((hG.below hb0).below hb1).below hb2).below hb3)).mono ?_; rintro e w4 ⟨rfl, hb4⟩)
          | (go_at_call 95; have _t := hb7; refine (J2.out _).mono ?_; rintro e w8 ⟨rfl, hb8⟩)
          | (go_at_call 95; refine (J1.out _).mono ?_; rintro e w7 ⟨rfl, hb7⟩; have hb5 := nb_refl w4; have hb6 := nb_refl w4))
        go_ret3
        refine ⟨_, _, F.out, ?_, nb_trans hb0 (nb_trans hb1 (nb_trans hb2 (nb_trans hb3 (nb_trans hb4 (nb_trans hb5 (nb_trans hb6 (nb_trans hb7 hb8)))))))⟩
        rw [← HS1.out, ← HS2.out]
        rfl
      · subst hfp
        clear hpq
        go_enter Tryz.func53, Tryz.ntmps53
        go_wp2_with (first
          | (go_at_call 90; refine (LA.out _).mono ?_; rintro e w1 ⟨rfl, hb1⟩; have hb0 := nb_refl w)
          | (go_at_call 91; have _t := hb2; refine (PB.out _).mono ?_; rintro e w3 ⟨rfl, hb3⟩)
          | (go_at_call 91; refine (PA.out _).mono ?_; rintro e w2 ⟨rfl, hb2⟩)
          | (go_at_call 92; refine (DM.out _ ((((hG.below hb0).below hb1).below hb2).below hb3)).mono ?_; rintro e w4 ⟨rfl, hb4⟩)
          | (go_at_call 95; have _t := hb7; refine (J2.out _).mono ?_; rintro e w8 ⟨rfl, hb8⟩)
          | (go_at_call 95; refine (J1.out _).mono ?_; rintro e w7 ⟨rfl, hb7⟩; have hb5 := nb_refl w4; have hb6 := nb_refl w4))
        go_ret3
        refine ⟨_, _, F.out, ?_, nb_trans hb0 (nb_trans hb1 (nb_trans hb2 (nb_trans hb3 (nb_trans hb4 (nb_trans hb5 (nb_trans hb6 (nb_trans hb7 hb8)))))))⟩
        rw [← HS1.out, ← HS2.out]
        rfl
    · have hnm' : (!n == m) = true := by rw [beq_eq_false_iff_ne.2 hnm]; rfl
      have hnm2 : (n == m) = false := beq_eq_false_iff_ne.2 hnm
      by_cases hR0 : R = 0
      · have F := Lib.hid (F2.out hnm hR0)
        have J1 : Hid (∀ W, Calls Tryz.prog 95 #[.bool true, .string zq] W fun e w' => e = .returned (.string (tx (sg true Q))) ∧ Below W.heap.size W w') := Lib.hid (fun W => K1.out true W)
        have J2 : Hid (∀ W, Calls Tryz.prog 95 #[.bool m, .string zr] W fun e w' => e = .returned (.string (tx (sg m R))) ∧ Below W.heap.size W w') := Lib.hid (fun W => K2.out m W)
        obtain ⟨s1, hs1⟩ : ∃ s, s = tx (sg true Q) := ⟨_, rfl⟩
        obtain ⟨s2, hs2⟩ : ∃ s, s = tx (sg m R) := ⟨_, rfl⟩
        rw [← hs1] at J1
        rw [← hs2] at J2
        have HS1 := Lib.hid hs1
        have HS2 := Lib.hid hs2
        clear hs1 hs2
        rw [decide_eq_true hR0] at hrz
        clear F1 F2 F3 K1 K2 K3 K4 DA DS hR
        rcases Bool.eq_false_or_eq_true fp with hfp | hfp
        · subst hfp
          obtain rfl : fq = false := by
            rcases Bool.eq_false_or_eq_true fq with h | h
            · exact absurd ⟨rfl, h⟩ hpq
            · exact h
          clear hpq
          go_enter Tryz.func53, Tryz.ntmps53
          go_wp2_with (first
            | (go_at_call 90; have _t := hb0; refine (LB.out _).mono ?_; rintro e w1 ⟨rfl, hb1⟩)
            | (go_at_call 90; refine (LA.out _).mono ?_; rintro e w0 ⟨rfl, hb0⟩)
            | (go_at_call 91; have _t := hb2; refine (PB.out _).mono ?_; rintro e w3 ⟨rfl, hb3⟩)
            | (go_at_call 91; refine (PA.out _).mono ?_; rintro e w2 ⟨rfl, hb2⟩)
            | (go_at_call 92; refine (DM.out _ ((((hG.below hb0).below hb1).below hb2).below hb3)).mono ?_; rintro e w4 ⟨rfl, hb4⟩)
            | (go_at_call 95; have _t := hb7; refine (J2.out _).mono ?_; rintro e w8 ⟨rfl, hb8⟩)
            | (go_at_call 95; refine (J1.out _).mono ?_; rintro e w7 ⟨rfl, hb7⟩; have hb5 := nb_refl w4; have hb6 := nb_refl w4))
          go_ret3
          refine ⟨_, _, F.out, ?_, nb_trans hb0 (nb_trans hb1 (nb_trans hb2 (nb_trans hb3 (nb_trans hb4 (nb_trans hb5 (nb_trans hb6 (nb_trans hb7 hb8)))))))⟩
          rw [← HS1.out, ← HS2.out]
          rfl
        · subst hfp
          clear hpq
          go_enter Tryz.func53, Tryz.ntmps53
          go_wp2_with (first
            | (go_at_call 90; refine (LA.out _).mono ?_; rintro e w1 ⟨rfl, hb1⟩; have hb0 := nb_refl w)
            | (go_at_call 91; have _t := hb2; refine (PB.out _).mono ?_; rintro e w3 ⟨rfl, hb3⟩)
            | (go_at_call 91; refine (PA.out _).mono ?_; rintro e w2 ⟨rfl, hb2⟩)
            | (go_at_call 92; refine (DM.out _ ((((hG.below hb0).below hb1).below hb2).below hb3)).mono ?_; rintro e w4 ⟨rfl, hb4⟩)
            | (go_at_call 95; have _t := hb7; refine (J2.out _).mono ?_; rintro e w8 ⟨rfl, hb8⟩)
            | (go_at_call 95; refine (J1.out _).mono ?_; rintro e w7 ⟨rfl, hb7⟩; have hb5 := nb_refl w4; have hb6 := nb_refl w4))
          go_ret3
          refine ⟨_, _, F.out, ?_, nb_trans hb0 (nb_trans hb1 (nb_trans hb2 (nb_trans hb3 (nb_trans hb4 (nb_trans hb5 (nb_trans hb6 (nb_trans hb7 hb8)))))))⟩
          rw [← HS1.out, ← HS2.out]
          rfl
      · have F := Lib.hid (F3.out hnm (by omega))
        have J1 : Hid (∀ W, Calls Tryz.prog 95 #[.bool true, .string zq1] W fun e w' => e = .returned (.string (tx (sg true (Q + 1)))) ∧ Below W.heap.size W w') := Lib.hid (fun W => K3.out true W)
        have J2 : Hid (∀ W, Calls Tryz.prog 95 #[.bool m, .string zr1] W fun e w' => e = .returned (.string (tx (sg m (b.natAbs - R)))) ∧ Below W.heap.size W w') := Lib.hid (fun W => K4.out m W)
        obtain ⟨s1, hs1⟩ : ∃ s, s = tx (sg true (Q + 1)) := ⟨_, rfl⟩
        obtain ⟨s2, hs2⟩ : ∃ s, s = tx (sg m (b.natAbs - R)) := ⟨_, rfl⟩
        rw [← hs1] at J1
        rw [← hs2] at J2
        have HS1 := Lib.hid hs1
        have HS2 := Lib.hid hs2
        clear hs1 hs2
        rw [decide_eq_false hR0] at hrz
        clear F1 F2 F3 K1 K2 K3 K4 hR
        rcases Bool.eq_false_or_eq_true fp with hfp | hfp
        · subst hfp
          obtain rfl : fq = false := by
            rcases Bool.eq_false_or_eq_true fq with h | h
            · exact absurd ⟨rfl, h⟩ hpq
            · exact h
          clear hpq
          go_enter Tryz.func53, Tryz.ntmps53
          go_wp2_with (first
            | (go_at_call 90; have _t := hb0; refine (LB.out _).mono ?_; rintro e w1 ⟨rfl, hb1⟩)
            | (go_at_call 90; refine (LA.out _).mono ?_; rintro e w0 ⟨rfl, hb0⟩)
            | (go_at_call 91; have _t := hb2; refine (PB.out _).mono ?_; rintro e w3 ⟨rfl, hb3⟩)
            | (go_at_call 91; refine (PA.out _).mono ?_; rintro e w2 ⟨rfl, hb2⟩)
            | (go_at_call 92; refine (DM.out _ ((((hG.below hb0).below hb1).below hb2).below hb3)).mono ?_; rintro e w4 ⟨rfl, hb4⟩)
            | (go_at_call 93; refine (DA.out _ (((((hG.below hb0).below hb1).below hb2).below hb3).below hb4)).mono ?_; rintro e w5 ⟨rfl, hb5⟩)
            | (go_at_call 94; refine (DS.out _ ((((((hG.below hb0).below hb1).below hb2).below hb3).below hb4).below hb5)).mono ?_; rintro e w6 ⟨rfl, hb6⟩)
            | (go_at_call 95; have _t := hb7; refine (J2.out _).mono ?_; rintro e w8 ⟨rfl, hb8⟩)
            | (go_at_call 95; refine (J1.out _).mono ?_; rintro e w7 ⟨rfl, hb7⟩))
          go_ret3
          refine ⟨_, _, F.out, ?_, nb_trans hb0 (nb_trans hb1 (nb_trans hb2 (nb_trans hb3 (nb_trans hb4 (nb_trans hb5 (nb_trans hb6 (nb_trans hb7 hb8)))))))⟩
          rw [← HS1.out, ← HS2.out]
          rfl
        · subst hfp
          clear hpq
          go_enter Tryz.func53, Tryz.ntmps53
          go_wp2_with (first
            | (go_at_call 90; refine (LA.out _).mono ?_; rintro e w1 ⟨rfl, hb1⟩; have hb0 := nb_refl w)
            | (go_at_call 91; have _t := hb2; refine (PB.out _).mono ?_; rintro e w3 ⟨rfl, hb3⟩)
            | (go_at_call 91; refine (PA.out _).mono ?_; rintro e w2 ⟨rfl, hb2⟩)
            | (go_at_call 92; refine (DM.out _ ((((hG.below hb0).below hb1).below hb2).below hb3)).mono ?_; rintro e w4 ⟨rfl, hb4⟩)
            | (go_at_call 93; refine (DA.out _ (((((hG.below hb0).below hb1).below hb2).below hb3).below hb4)).mono ?_; rintro e w5 ⟨rfl, hb5⟩)
            | (go_at_call 94; refine (DS.out _ ((((((hG.below hb0).below hb1).below hb2).below hb3).below hb4).below hb5)).mono ?_; rintro e w6 ⟨rfl, hb6⟩)
            | (go_at_call 95; have _t := hb7; refine (J2.out _).mono ?_; rintro e w8 ⟨rfl, hb8⟩)
            | (go_at_call 95; refine (J1.out _).mono ?_; rintro e w7 ⟨rfl, hb7⟩))
          go_ret3
          refine ⟨_, _, F.out, ?_, nb_trans hb0 (nb_trans hb1 (nb_trans hb2 (nb_trans hb3 (nb_trans hb4 (nb_trans hb5 (nb_trans hb6 (nb_trans hb7 hb8)))))))⟩
          rw [← HS1.out, ← HS2.out]
          rfl
end Go.Proofs.YtmfkpmepgbjmkaaGreatDoor
