/-
  WALKS: whole's Compare, Add, Sub, Mul.
-/
import Derived.Test.YtmfkpmepgbjmkaaGreatDoorDadd
set_option linter.unusedVariables false
set_option linter.unusedSimpArgs false
namespace Go.Proofs.YtmfkpmepgbjmkaaGreatDoor
open Go.RowKit

/-- A size at which no walk of an integer's text is short of room. -/
def Za (a : Int) : Prop := (tx a).size ≤ 40000000000
theorem Za.sz {a : Int} (h : Za a) : Sz a := by unfold Za at h; unfold Sz; omega
theorem Za.zn {a : Int} (h : Za a) : Zn a.natAbs := by have := nat_size a; unfold Za at h; unfold Zn; omega
theorem Za.nat {a : Int} (h : Za a) : (tn a.natAbs).size ≤ 40000000000 := by have := nat_size a; unfold Za at h; omega
theorem tn_add (u v k : Nat) (hu : (tn u).size ≤ k) (hv : (tn v).size ≤ k) : (tn (u + v)).size ≤ k + 1 := by
  have h1 := short_of hu
  have h2 := short_of hv
  rw [tn_size]
  apply nDigits_le _ _ _ (by omega)
  rw [Nat.pow_succ]
  omega
theorem tn_mul (u v k l : Nat) (hu : (tn u).size ≤ k) (hv : (tn v).size ≤ l) (hk : 1 ≤ k) : (tn (u * v)).size ≤ k + l := by
  have h1 := short_of hu
  have h2 := short_of hv
  rw [tn_size]
  apply nDigits_le _ _ _ (by omega)
  rw [Nat.pow_add]
  exact Nat.mul_lt_mul'' h1 h2
theorem tn_le {u v : Nat} (h : u ≤ v) : (tn u).size ≤ (tn v).size := by
  rw [tn_size, tn_size]
  exact nDigits_mono h

theorem wcompare_any (a b : Int) (ha : Za a) (hb : Za b) (w : World) :
    Calls Tryz.prog 122 #[.string (tx a), .string (tx b)] w fun e w' => e = .returned (.int .i64 (cmp a b)) ∧ Below w.heap.size w w' := by
  have SA := Lib.hid (fun W => sign_any a ha.sz W)
  have SB := Lib.hid (fun W => sign_any b hb.sz W)
  have PA := Lib.hid (fun W => split_any a ha.sz W)
  have PB := Lib.hid (fun W => split_any b hb.sz W)
  have C1 := Lib.hid (fun W => dcompare_any a.natAbs b.natAbs (Nat.le_trans ha.nat (by decide)) (Nat.le_trans hb.nat (by decide)) W)
  have C2 := Lib.hid (fun W => dcompare_any b.natAbs a.natAbs (Nat.le_trans hb.nat (by decide)) (Nat.le_trans ha.nat (by decide)) W)
  obtain ⟨x, hx⟩ : ∃ x, x = tx a := ⟨_, rfl⟩
  obtain ⟨y, hy⟩ : ∃ y, y = tx b := ⟨_, rfl⟩
  obtain ⟨u, hu⟩ : ∃ u, u = tn a.natAbs := ⟨_, rfl⟩
  obtain ⟨v, hv⟩ : ∃ v, v = tn b.natAbs := ⟨_, rfl⟩
  rw [← hx] at SA PA ⊢
  rw [← hy] at SB PB ⊢
  rw [← hu] at PA C1 C2
  rw [← hv] at PB C1 C2
  clear hx hy hu hv ha hb
  by_cases hs : a.sign = b.sign
  · obtain ⟨s, hsa⟩ : ∃ s, s = a.sign := ⟨_, rfl⟩
    rw [← hsa] at SA
    rw [← hs, ← hsa] at SB
    by_cases hn : a < 0
    · have hr : Hid (cmp (b.natAbs : Int) a.natAbs = cmp a b) := Lib.hid (by
        have : b < 0 := by rw [← Int.sign_eq_neg_one_iff_neg, ← hs, Int.sign_eq_neg_one_of_neg hn]
        unfold cmp
        split <;> split <;> (try split) <;> (try split) <;> omega)
      rw [decide_eq_true hn] at PA
      clear hs hsa hn
      go_enter Tryz.func122, Tryz.ntmps122
      go_wp2_with (first
        | (go_at_call 82; have _t := hb1; refine (SB.out _).mono ?_; rintro e w2 ⟨rfl, hb2⟩)
        | (go_at_call 82; refine (SA.out _).mono ?_; rintro e w1 ⟨rfl, hb1⟩)
        | (go_at_call 91; have _t := hb3; refine (PB.out _).mono ?_; rintro e w4 ⟨rfl, hb4⟩)
        | (go_at_call 91; refine (PA.out _).mono ?_; rintro e w3 ⟨rfl, hb3⟩)
        | (go_at_call 139; refine (C2.out _).mono ?_; rintro e w5 ⟨rfl, hb5⟩))
      go_ret
      exact ⟨by rw [hr.out]; rfl, nb_trans hb1 (nb_trans hb2 (nb_trans hb3 (nb_trans hb4 hb5)))⟩
    · have hr : Hid (cmp (a.natAbs : Int) b.natAbs = cmp a b) := Lib.hid (by
        have : ¬ b < 0 := fun h => hn (by rw [← Int.sign_eq_neg_one_iff_neg, hs, Int.sign_eq_neg_one_of_neg h])
        unfold cmp
        split <;> split <;> (try split) <;> (try split) <;> omega)
      rw [decide_eq_false hn] at PA
      clear hs hsa hn
      go_enter Tryz.func122, Tryz.ntmps122
      go_wp2_with (first
        | (go_at_call 82; have _t := hb1; refine (SB.out _).mono ?_; rintro e w2 ⟨rfl, hb2⟩)
        | (go_at_call 82; refine (SA.out _).mono ?_; rintro e w1 ⟨rfl, hb1⟩)
        | (go_at_call 91; have _t := hb3; refine (PB.out _).mono ?_; rintro e w4 ⟨rfl, hb4⟩)
        | (go_at_call 91; refine (PA.out _).mono ?_; rintro e w3 ⟨rfl, hb3⟩)
        | (go_at_call 139; refine (C1.out _).mono ?_; rintro e w5 ⟨rfl, hb5⟩))
      go_ret
      exact ⟨by rw [hr.out]; rfl, nb_trans hb1 (nb_trans hb2 (nb_trans hb3 (nb_trans hb4 hb5)))⟩
  · obtain ⟨s, hsa⟩ : ∃ s, s = a.sign := ⟨_, rfl⟩
    obtain ⟨t, htb⟩ : ∃ t, t = b.sign := ⟨_, rfl⟩
    have hst : (s != t) = true := by rw [hsa, htb, bne_iff_ne]; exact hs
    have hr : Hid ((s < t → cmp a b = -1) ∧ (¬ s < t → cmp a b = 1)) := Lib.hid (by
      have h3 := Int.lt_trichotomy a 0
      have h4 := Int.lt_trichotomy b 0
      constructor
      · intro h
        apply cmp_lt
        rw [hsa, htb] at h
        rcases h3 with h3 | h3 | h3 <;> rcases h4 with h4 | h4 | h4 <;>
          (first | (subst h3) | skip) <;> (first | (subst h4) | skip) <;>
          (first | rw [Int.sign_eq_neg_one_of_neg h3] at h | rw [Int.sign_eq_one_of_pos h3] at h | skip) <;>
          (first | rw [Int.sign_eq_neg_one_of_neg h4] at h | rw [Int.sign_eq_one_of_pos h4] at h | skip) <;>
          simp at h <;> omega
      · intro h
        apply cmp_gt
        rw [hsa, htb] at h
        rcases h3 with h3 | h3 | h3 <;> rcases h4 with h4 | h4 | h4 <;>
          (first | (subst h3) | skip) <;> (first | (subst h4) | skip) <;>
          (first | rw [Int.sign_eq_neg_one_of_neg h3] at h hs | rw [Int.sign_eq_one_of_pos h3] at h hs | skip) <;>
          (first | rw [Int.sign_eq_neg_one_of_neg h4] at h hs | rw [Int.sign_eq_one_of_pos h4] at h hs | skip) <;>
          simp at h hs <;> omega)
    rw [← hsa] at SA
    rw [← htb] at SB
    clear hs hsa htb
    by_cases hlt : s < t
    · go_enter Tryz.func122, Tryz.ntmps122
      go_wp2_with (first
        | (go_at_call 82; have _t := hb1; refine (SB.out _).mono ?_; rintro e w2 ⟨rfl, hb2⟩)
        | (go_at_call 82; refine (SA.out _).mono ?_; rintro e w1 ⟨rfl, hb1⟩))
      go_ret
      exact ⟨by rw [hr.out.1 hlt]; rfl, nb_trans hb1 hb2⟩
    · go_enter Tryz.func122, Tryz.ntmps122
      go_wp2_with (first
        | (go_at_call 82; have _t := hb1; refine (SB.out _).mono ?_; rintro e w2 ⟨rfl, hb2⟩)
        | (go_at_call 82; refine (SA.out _).mono ?_; rintro e w1 ⟨rfl, hb1⟩))
      go_ret
      exact ⟨by rw [hr.out.2 hlt]; rfl, nb_trans hb1 hb2⟩
end Go.Proofs.YtmfkpmepgbjmkaaGreatDoor
