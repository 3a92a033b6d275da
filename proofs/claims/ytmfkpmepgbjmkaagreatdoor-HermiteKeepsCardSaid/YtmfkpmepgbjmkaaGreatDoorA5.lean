/-
  WALKS: decimal.Compare.
  WALKS: decimal.Add, Sub, Mul, DivMod.
  WALKS: decimal.DivMod.
  WALKS: decimal.Add.
-/
import Derived.Test.YtmfkpmepgbjmkaaGreatDoorA4
import Derived.Deep.CutBlock
set_option linter.unusedVariables false
set_option linter.unusedSimpArgs false
namespace Go.Proofs.YtmfkpmepgbjmkaaGreatDoor
open Go.RowKit

theorem u8_lt (a b : UInt8) : (a < b) = (a.toNat < b.toNat) := rfl
theorem bytesLess_spell (l : List UInt8) : ∀ r : List UInt8, l.length = r.length → (∀ c ∈ l, 48 ≤ c.toNat ∧ c.toNat ≤ 57) → (∀ c ∈ r, 48 ≤ c.toNat ∧ c.toNat ≤ 57) → Op.bytesLess l r = decide (spell 0 l < spell 0 r) := by
  induction l with
  | nil =>
    intro r hl _ _
    cases r with
    | nil => rfl
    | cons c r => simp at hl
  | cons a l ih =>
    intro r hl h1 h2
    cases r with
    | nil => simp at hl
    | cons b r =>
      have hlr : l.length = r.length := by simpa using hl
      have ihr := ih r hlr (fun c hc => h1 c (List.mem_cons_of_mem _ hc)) (fun c hc => h2 c (List.mem_cons_of_mem _ hc))
      have la := spell_lt l (fun c hc => h1 c (List.mem_cons_of_mem _ hc))
      have lb := spell_lt r (fun c hc => h2 c (List.mem_cons_of_mem _ hc))
      have da := h1 a (List.mem_cons_self ..)
      have db := h2 b (List.mem_cons_self ..)
      rw [spell_cons, spell_cons, spell_acc l, spell_acc r, hlr]
      rw [hlr] at la
      show (decide (a < b) || (a == b && Op.bytesLess l r)) = _
      rw [ihr]
      generalize spell 0 l = x at *
      generalize spell 0 r = y at *
      generalize 10 ^ r.length = p at *
      rcases Nat.lt_trichotomy a.toNat b.toNat with h | h | h
      · have e1 : decide (a < b) = true := decide_eq_true h
        rw [e1, Bool.true_or]
        symm
        apply decide_eq_true
        have : (0 * 10 + (a.toNat - 48) + 1) * p ≤ (0 * 10 + (b.toNat - 48)) * p := Nat.mul_le_mul_right _ (by omega)
        rw [Nat.add_mul] at this
        omega
      · have e : a = b := UInt8.toNat_inj.1 h
        subst e
        have e1 : decide (a < a) = false := decide_eq_false (by rw [u8_lt]; omega)
        rw [e1, Bool.false_or, beq_self_eq_true, Bool.true_and]
        congr 1
        apply propext
        omega
      · have e1 : decide (a < b) = false := decide_eq_false (by rw [u8_lt]; omega)
        have e2 : (a == b) = false := by
          rw [beq_eq_false_iff_ne]
          intro e
          subst e
          omega
        rw [e1, e2, Bool.false_or, Bool.false_and]
        symm
        apply decide_eq_false
        have : (0 * 10 + (b.toNat - 48) + 1) * p ≤ (0 * 10 + (a.toNat - 48)) * p := Nat.mul_le_mul_right _ (by omega)
        rw [Nat.add_mul] at this
        omega
theorem tn_toList (u : Nat) : (tn u).toList = Lib.decDigits u := by
  rw [← tx_nat, tx_toList]
  have := tx_list (u : Int)
  rw [tx_nat] at this
  exact this.symm
theorem tn_less {u v : Nat} (h : (tn u).size = (tn v).size) : Op.bytesLess (tn u).toList (tn v).toList = decide (u < v) := by
  rw [tn_toList, tn_toList, bytesLess_spell _ _ (by rw [tn_size, tn_size] at h; rw [Lib.decDigits_length, Lib.decDigits_length]; exact h) (dec_digit u) (dec_digit v), spell_dec, spell_dec]
theorem tn_eq (u v : Nat) : ((tn u).toList == (tn v).toList) = decide (u = v) := by
  rw [← tx_nat, ← tx_nat, tx_eq]
  congr 1
  apply propext
  omega
theorem nDigits_mono {u v : Nat} (h : u ≤ v) : Lib.nDigits u ≤ Lib.nDigits v :=
  nDigits_le _ _ (Nat.lt_of_le_of_lt h (Lib.lt_pow_nDigits v)) (Lib.nDigits_pos v)
theorem lt_of_size {u v : Nat} (h : (tn u).size < (tn v).size) : u < v := by
  rw [tn_size, tn_size] at h
  rcases Nat.lt_or_ge u v with h' | h'
  · exact h'
  · have := nDigits_mono h'
    omega

theorem cmp_lt {a b : Int} (h : a < b) : cmp a b = -1 := by unfold cmp; rw [if_pos h]
theorem cmp_eq {a b : Int} (h : a = b) : cmp a b = 0 := by unfold cmp; rw [if_neg (by omega), if_neg (by omega)]
theorem cmp_gt {a b : Int} (h : b < a) : cmp a b = 1 := by unfold cmp; rw [if_neg (by omega), if_pos h]

set_option maxRecDepth 100000 in
theorem dcompare_any (u v : Nat) (hu : (tn u).size ≤ 1000000000000) (hv : (tn v).size ≤ 1000000000000) (w : World) :
    Calls Tryz.prog 139 #[.string (tn u), .string (tn v)] w fun e w' => e = .returned (.int .i64 (cmp u v)) ∧ Below w.heap.size w w' := by
  rcases Nat.lt_trichotomy (tn u).size (tn v).size with h | h | h
  · have h1 : (((tn u).size : Int) != ((tn v).size : Int)) = true := by rw [bne_iff_ne]; omega
    have HC : Hid (cmp u v = -1) := cmp_lt (by have := lt_of_size h; omega)
    have hm : min 1 (max (-1) (((tn u).size : Int) - ((tn v).size : Int))) = -1 := by omega
    go_enter Tryz.func139, Tryz.ntmps139
    go_wp2_with fail
    go_ret
    refine ⟨?_, nb_refl _⟩
    rw [HC.out]
    first | rfl | exact ret_int hm
  · have h1 : (((tn u).size : Int) != ((tn v).size : Int)) = false := by rw [bne_eq_false_iff_eq]; omega
    have h2 := tn_less h
    have h3 : (!(tn u).toList == (tn v).toList) = !decide (u = v) := by rw [tn_eq]
    rcases Nat.lt_trichotomy u v with h4 | h4 | h4
    · rw [decide_eq_true h4] at h2
      have HC : Hid (cmp u v = -1) := cmp_lt (by omega)
      go_enter Tryz.func139, Tryz.ntmps139
      go_wp2_with fail
      go_ret
      exact ⟨by rw [HC.out]; rfl, nb_refl _⟩
    · subst h4
      rw [decide_eq_false (by omega)] at h2
      clear h3 h1 h
      have HC : Hid (cmp u u = 0) := cmp_eq rfl
      go_enter Tryz.func139, Tryz.ntmps139
      go_wp2_with fail
      go_ret
      exact ⟨by rw [HC.out]; rfl, nb_refl _⟩
    · rw [decide_eq_false (by omega)] at h2
      rw [decide_eq_false (by omega)] at h3
      have HC : Hid (cmp u v = 1) := cmp_gt (by omega)
      go_enter Tryz.func139, Tryz.ntmps139
      go_wp2_with fail
      go_ret
      exact ⟨by rw [HC.out]; rfl, nb_refl _⟩
  · have h1 : (((tn u).size : Int) != ((tn v).size : Int)) = true := by rw [bne_iff_ne]; omega
    have HC : Hid (cmp u v = 1) := cmp_gt (by have := lt_of_size h; omega)
    have hm : min 1 (max (-1) (((tn u).size : Int) - ((tn v).size : Int))) = 1 := by omega
    go_enter Tryz.func139, Tryz.ntmps139
    go_wp2_with fail
    go_ret
    refine ⟨?_, nb_refl _⟩
    rw [HC.out]
    first | rfl | exact ret_int hm
end Go.Proofs.YtmfkpmepgbjmkaaGreatDoor

namespace Go.Proofs.YtmfkpmepgbjmkaaGreatDoor
open Go.RowKit

/-- A size at which no walk of a natural number's text is short of room. -/
def Zn (u : Nat) : Prop := (tn u).size ≤ 100000000000
theorem short_of {u k : Nat} (h : (tn u).size ≤ k) : u < 10 ^ k := lt_of_tn h

set_option maxRecDepth 100000 in
set_option maxHeartbeats 1600000 in
theorem dmul_any (u v : Nat) (hu : Zn u) (hv : Zn v) (w : World) (hG : GOk w) :
    Calls Tryz.prog 96 #[.string (tn u), .string (tn v)] w fun e w' => e = .returned (.string (tn (u * v))) ∧ Below w.heap.size w w' := by
  unfold Zn at hu hv
  by_cases hs : (tn u).size + (tn v).size ≤ 18
  · have hs' : ((tn u).size : Int) + ((tn v).size : Int) ≤ 18 := by omega
    have h1 := short_of (u := u) (k := (tn u).size) (Nat.le_refl _)
    have h2 := short_of (u := v) (k := (tn v).size) (Nat.le_refl _)
    have h3 : u * v < 10 ^ ((tn u).size + (tn v).size) := by rw [Nat.pow_add]; exact Nat.mul_lt_mul'' h1 h2
    have h4 : u * v < 10 ^ 18 := Nat.lt_of_lt_of_le h3 (Nat.pow_le_pow_right (by decide) hs)
    have h5 : (u : Int) * (v : Int) < 1000000000000000000 := by rw [← Int.natCast_mul]; omega
    have h6 : 0 ≤ (u : Int) * (v : Int) := by rw [← Int.natCast_mul]; omega
    have S := Lib.hid (fun W => both_short u v (by omega) (by omega) W)
    have hD := Lib.hid (fun W (hg : GOk W) => dec_of (u * v) (by omega) W hg)
    clear h1 h2 h3 h4
    go_enter Tryz.func96, Tryz.ntmps96
    go_wp2_with (first
      | (go_at_call 130; refine (S.out _).mono ?_; rintro e w1 ⟨rfl, hb1⟩)
      | (go_at_call 131; rw [← Int.natCast_mul]; refine (hD.out _ (hG.below hb1)).mono ?_; rintro e w2 ⟨rfl, hb2⟩))
    go_ret
    exact ⟨rfl, nb_trans hb1 hb2⟩
  · have hs' : ¬ ((tn u).size : Int) + ((tn v).size : Int) ≤ 18 := by omega
    have C1 := Lib.hid (fun W => cut_any u W (by omega))
    have C2 := Lib.hid (fun W => cut_any v W (by omega))
    obtain ⟨x, hx⟩ : ∃ x, x = tn u := ⟨_, rfl⟩
    obtain ⟨y, hy⟩ : ∃ y, y = tn v := ⟨_, rfl⟩
    rw [← hx] at C1 hs hs' hu ⊢
    rw [← hy] at C2 hs hs' hv ⊢
    clear hx hy
    go_enter Tryz.func96, Tryz.ntmps96
    go_wp2_with (first
      | (go_at_call 132; have _t := HB1; refine (C2.out _).mono ?_; rintro e w2 ⟨v2, b, rfl, hp, hv, hl, hb⟩; have HP2 := Lib.hid hp; have HV2 := Lib.hid hv; have HL2 := Lib.hid hl; have HB2 := Lib.hid hb; clear hp hv hl hb
         obtain ⟨A1, c1, hv1, _, _, hr1⟩ := own_rd HP1.out.own
         obtain ⟨A2, c2, hv2, _, _, hr2⟩ := own_rd HP2.out.own
         subst hv1 hv2
         have HR1 := Lib.hid hr1
         have HR2 := Lib.hid hr2
         clear hr1 hr2)
      | (go_at_call 132; refine (C1.out _).mono ?_; rintro e w1 ⟨v1, a, rfl, hp, hv, hl, hb⟩; have HP1 := Lib.hid hp; have HV1 := Lib.hid hv; have HL1 := Lib.hid hl; have HB1 := Lib.hid hb; clear hp hv hl hb)
      | (go_at_call 141; refine (times_any A1 A2 a.length b.length c1 c2 a b w2 (HR1.out.nb HB2.out) HR2.out (by have := HL1.out; omega) (by have := HL2.out; omega) HP1.out.dig HP2.out.dig).mono ?_; rintro e w3 ⟨v3, o, rfl, hp, hv, hl, hb⟩; have HP3 := Lib.hid hp; have HV3 := Lib.hid hv; have HL3 := Lib.hid hl; have HB3 := Lib.hid hb; clear hp hv hl hb
         obtain ⟨A3, c3, hv3, _, _, hr3⟩ := own_rd HP3.out.own
         subst hv3
         have HR3 := Lib.hid hr3
         clear hr3)
      | (go_at_call 135; refine (text_any A3 o.length c3 o w3 HR3.out (by have := HL1.out; have := HL2.out; have := HL3.out; omega) HP3.out.dig HP3.out.top).mono ?_; rintro e w4 ⟨rfl, hb4⟩))
    go_ret
    refine ⟨?_, nb_trans (nb_trans (nb_trans HB1.out HB2.out) HB3.out) hb4⟩
    refine ret_str ?_
    congr 1
    rw [HV3.out, HV1.out, HV2.out, ← Int.natCast_mul]
    rfl
theorem val_zeros_end (b : List Int) (k : Nat) : val (b ++ List.replicate k 0) = val b := by
  rw [val_append, val_zeros, Int.mul_zero, Int.add_zero]
theorem cut_len {u v : Nat} {a b : List Int} (ha : Dig a) (hb : Dig b) (tb : Top b) (hu : val a = (u : Int)) (hv : val b = (v : Int)) (h : v ≤ u) : b.length ≤ a.length :=
  top_len ha hb tb (by rw [hu, hv]; omega)
/-- What take leaves of a difference. -/
theorem take_diff {u v : Nat} {a o es : List Int} {bb : Bool} {m : Nat} (ha : val a = (u : Int)) (he : val es = (v : Int)) (h : v ≤ u) (ho : Dig o) (hl : o.length = m + 1)
    (hv : val o + B9 ^ 0 * (1 * val es) = val a + B9 ^ (0 + (m + 1)) * (if bb then 1 else 0)) : val o = ((u - v : Nat) : Int) := by
  have h1 := val_lt ho
  rw [hl] at h1
  rw [Nat.zero_add, Int.pow_zero, Int.one_mul, Int.one_mul, ha, he] at hv
  cases bb
  · simp at hv
    omega
  · simp at hv
    omega
theorem own_blocks {n c g : Nat} {w6 w3 : World} {A : Option Addr} {xs : List Value} (h : w6.ownsRow w3.heap.size 166 1 (.slice A n c) n xs) (hg : g < w3.heap.size) : ∀ g', A = some ⟨g', 0, none⟩ → g' ≠ g := by
  intro g' hA
  have := (h.lt g' (by rw [hA]; rfl)).1
  omega
theorem U_snoc (a : List Int) (x : Int) : U a ++ [Value.int .u64 x] = U (a ++ [x]) := by simp [U]
theorem U_zeros (a : List Int) (k : Nat) : U a ++ List.replicate k (Value.int .u64 0) = U (a ++ List.replicate k 0) := by simp [U]

set_option maxRecDepth 100000 in
set_option maxHeartbeats 1600000 in
theorem dsub_any (u v : Nat) (hu : Zn u) (hv : Zn v) (hvu : v ≤ u) (w : World) (hG : GOk w) :
    Calls Tryz.prog 94 #[.string (tn u), .string (tn v)] w fun e w' => e = .returned (.tuple #[.string (tn (u - v)), .int .i64 0]) ∧ Below w.heap.size w w' := by
  unfold Zn at hu hv
  obtain ⟨i0, hi0, hz0, hz1, hz2⟩ := info_parts Tryz.infoU
  have HC := Lib.hid (fun W => dcompare_any u v (by omega) (by omega) W)
  have hc0 : ¬ cmp u v < 0 := by
    rcases Nat.lt_or_ge v u with h' | h'
    · rw [cmp_gt (by omega)]; decide
    · rw [cmp_eq (by omega)]; decide
  by_cases hs : (tn u).size ≤ 18 ∧ (tn v).size ≤ 18
  · have h1 := short_of hs.1
    have h2 := short_of hs.2
    have S := Lib.hid (fun W => both_short u v hs.1 hs.2 W)
    have hD := Lib.hid (fun W (hg : GOk W) => dec_of (u - v) (by omega) W hg)
    obtain ⟨X, hX⟩ : ∃ X : Int, X = (u : Int) := ⟨_, rfl⟩
    obtain ⟨Y, hY⟩ : ∃ Y : Int, Y = (v : Int) := ⟨_, rfl⟩
    have e1 : Hid (X - Y = ((u - v : Nat) : Int)) := Lib.hid (by omega)
    have b1 : X < 1000000000000000000 := by omega
    have b2 : Y ≤ X := by omega
    have b3 : 0 ≤ Y := by omega
    rw [← hX, ← hY] at S HC
    rw [← hX, ← hY] at hc0
    clear hX hY hvu h1 h2 hs
    obtain ⟨x, hx⟩ : ∃ x, x = tn u := ⟨_, rfl⟩
    obtain ⟨y, hy⟩ : ∃ y, y = tn v := ⟨_, rfl⟩
    rw [← hx] at S HC hu ⊢
    rw [← hy] at S HC hv ⊢
    clear hx hy
    go_enter Tryz.func94, Tryz.ntmps94
    go_wp2_with (first
      | (go_at_call 139; refine (HC.out _).mono ?_; rintro e w0 ⟨rfl, hb0⟩)
      | (go_at_call 130; refine (S.out _).mono ?_; rintro e w1 ⟨rfl, hb1⟩)
      | (go_at_call 131; rw [e1.out]; refine (hD.out _ ((hG.below hb0).below hb1)).mono ?_; rintro e w2 ⟨rfl, hb2⟩))
    go_ret2
    exact ⟨rfl, nb_trans (nb_trans hb0 hb1) hb2⟩
  · have C1 := Lib.hid (fun W => cut_any u W (by omega))
    have C2 := Lib.hid (fun W => cut_any v W (by omega))
    have hs2 : 18 < (tn u).size ∨ 18 < (tn v).size := by omega
    have S := Lib.hid (fun W => both_long (tn u) (tn v) hs2 (by omega) (by omega) W)
    clear hs hs2
    obtain ⟨x, hx⟩ : ∃ x, x = tn u := ⟨_, rfl⟩
    obtain ⟨y, hy⟩ : ∃ y, y = tn v := ⟨_, rfl⟩
    rw [← hx] at C1 S HC hu ⊢
    rw [← hy] at C2 S HC hv ⊢
    clear hx hy
    go_enter Tryz.func94, Tryz.ntmps94
    go_upto_region 6 with (first
      | (go_at_call 139; refine (HC.out _).mono ?_; rintro e w0 ⟨rfl, hb0⟩)
      | (go_at_call 130; refine (S.out _).mono ?_; rintro e w1 ⟨rfl, hb1⟩))
    have HB := Lib.hid (nb_trans hb0 hb1)
    clear hb0 hb1
    go_upto_region 7 with (first
      | (go_at_call 132; refine (C1.out _).mono ?_; rintro e w2 ⟨v2, a, rfl, hp, hv, hl, hb⟩; have HP2 := Lib.hid hp; have HV2 := Lib.hid hv; have HL2 := Lib.hid hl; have HB2 := Lib.hid hb; have how := hp.own.alloc (.cells #[.int .u64 0] 166); have HOW := Lib.hid how; clear hp hv hl hb how)
      | (at_builtin; refine wpList_append_own _ rfl _ _ 171 rfl w1.heap.size 166 i0 (.int .u64 0) 1 8 Tryz.underlying171 hi0 hz0 hz1 hz2 rfl (by decide) _ _ _ rfl HOW.out ⟨w2.heap.size, 0, none⟩ 1 1 [.int .u64 0] rfl rfl (cell_one_new _ _ _) (by intro u hu; simp at hu; subst hu; rfl) (by have := HL2.out; unfold maxLen; omega) (by have := HL2.out; omega) (by have := HB2.out.size; simp; omega) ?_; intro v3 w3 hown3 hgrow3 hnil3; have HO3 := Lib.hid hown3; have HG3 := Lib.hid (nb_grown (HB2.out.trans (nb_alloc _ _ |>.mono HB2.out.size)) HOW.out (Nat.le_refl _) hgrow3); clear hown3 hgrow3 hnil3))
    have HO3' := HO3.out
    rw [U_snoc] at HO3'
    obtain ⟨ga, ca, hv3, q1, q2, q3, q4⟩ := own_OB HO3' (by omega)
    subst hv3
    have HQ := Lib.hid (And.intro q1 (And.intro q2 (And.intro q3 q4)))
    clear q1 q2 q3 q4 HO3' HOW HO3
    obtain ⟨n, hn⟩ : ∃ n, n = a.length := ⟨_, rfl⟩
    rw [← hn]
    rw [← hn] at HQ
    have hn1 : n ≤ 11111111112 := by have := HL2.out; omega
    have HN := Lib.hid hn
    clear hn
    go_upto_region 8 with (first
      | (go_at_call 132; have _t := HP4; refine (C2.out _).mono ?_; rintro e w5 ⟨v5, b5, rfl, hp, hv, hl, hb⟩; have HP5 := Lib.hid hp; have HV5 := Lib.hid hv; have HB5 := Lib.hid hb
         have hlen5 : b5.length = b.length := (by rw [val_inj hp.dig HP4.out.dig hp.top HP4.out.top (hv.trans HV4.out.symm)])
         obtain ⟨A5, c5, hv5, _, _, hr5⟩ := own_rd hp.own
         subst hv5
         rw [hlen5]
         clear hp hv hl hb hr5 hlen5
         have hlab : b.length ≤ n := (by rw [HN.out]; exact cut_len HP2.out.dig HP4.out.dig HP4.out.top HV2.out HV4.out hvu)
         obtain ⟨k, hk⟩ : ∃ k : Nat, n = b.length + k := ⟨n - b.length, (by omega)⟩
         subst hk)
      | (at_builtin
         obtain ⟨v6, w6, hr6, ho6, hg6, -⟩ := run_append_own_zeros (P := Tryz.prog) w5 w3.heap.size 171 3 171 166 i0 (.int .u64 0) .i64 Tryz.underlying171 Tryz.underlying3 hi0 hz0 hz1 hz2 rfl rfl v4 b.length (U b) (own_nb HP4.out.own HB5.out) k (by omega) (Nat.le_trans HB4.out.size HB5.out.size)
         rw [show ((k : Nat) : Int) = (b.length : Int) + (k : Int) - (b.length : Int) by omega] at hr6
         refine Lib.wpList_append_run _ rfl _ _ _ _ rfl _ _ rfl rfl v6 w6 hr6 ?_
         have ho6' := ho6
         rw [U_zeros] at ho6'
         obtain ⟨A6, c6, hv6, _, _, hrd6⟩ := own_rd ho6'
         have hb6 : Below w3.heap.size w3 w6 := (nb_grown (HB4.out.trans (HB5.out.mono HB4.out.size)) (own_nb HP4.out.own HB5.out) (Nat.le_refl _) hg6)
         subst hv6
         have H6 := Lib.hid (And.intro ho6' (And.intro hrd6 hb6))
         clear hr6 ho6 hg6 ho6' hrd6 hb6)
      | (go_at_call 140
         refine (take_any ga (b.length + k + 1) ca (b.length + k) c6 0 A6 1 (a ++ [0]) (b ++ List.replicate k 0) w6 (by have h1 := HN.out; rw [List.length_append, List.length_singleton]; omega) (HQ.out.2.2.2.of_block (H6.out.2.2.block ga HQ.out.2.2.2.lt)) H6.out.2.1 (own_blocks H6.out.1 HQ.out.2.2.2.lt) (by omega) (by omega) (HP2.out.dig.append (fun d hd => by rw [List.mem_singleton.1 hd]; decide)) (HP4.out.dig.append (Dig.zeros k)) (by decide) (by decide)).mono ?_
         rintro e w7 ⟨bb, o, rfl, hob7, hol7, hdo7, hfar7, hval7, hkp7⟩
         have hol8 : o.length = b.length + k + 1 := (by have h1 := HN.out; rw [hol7, List.length_append, List.length_singleton]; omega)
         have hv8 : val o = ((u - v : Nat) : Int) := take_diff (m := b.length + k) (by rw [val_snoc, Int.mul_zero, Int.add_zero]; exact HV2.out) (by rw [val_zeros_end]; exact HV4.out) hvu hdo7 hol8 hval7
         have H7 := Lib.hid (And.intro hob7 (And.intro hol8 (And.intro hdo7 hv8)))
         have HK7 := Lib.hid hkp7
         clear hob7 hol7 hdo7 hfar7 hval7 hol8 hv8 hkp7)
      | (go_at_call 132; refine (C2.out _).mono ?_; rintro e w4 ⟨v4, b, rfl, hp, hv, hl, hb⟩; have HP4 := Lib.hid hp; have HV4 := Lib.hid hv; have HL4 := Lib.hid hl; have HB4 := Lib.hid hb; clear hp hv hl hb))
    go_wp2_with (first
      | (go_at_call 138; refine (trim_any (some ⟨ga, 0, none⟩) (b.length + k + 1) ca o _ (H7.out.1.rd H7.out.2.1) HQ.out.1 (by omega)).mono ?_; rintro e w8 ⟨t, ht, rfl, rfl⟩; have HT := Lib.hid ht; clear ht)
      | (go_at_call 135; refine (text_any (some ⟨ga, 0, none⟩) t ca (o.take t) _ ((H7.out.1.rd H7.out.2.1).take (by have := HT.out.1; rw [H7.out.2.1] at this; exact this)) (by have := HT.out.1; have := H7.out.2.1; omega) (H7.out.2.2.1.take t) (trims_parts HT.out).1).mono ?_; rintro e w9 ⟨rfl, hb9⟩))
    go_ret2
    refine ⟨?_, ?_⟩
    · rw [(trims_parts HT.out).2.1, H7.out.2.2.2]
      rfl
    · have hb7 : Below w1.heap.size w1 w6 := HG3.out.trans (H6.out.2.2.mono HG3.out.size)
      exact nb_trans HB.out ((hb7.trans (HK7.out.below (B := w1.heap.size) hb7.size (fun i hi => by rw [hi]; exact HQ.out.2.2.1))).trans (hb9.mono (Nat.le_trans hb7.size HK7.out.size)))
end Go.Proofs.YtmfkpmepgbjmkaaGreatDoor

namespace Go.Proofs.YtmfkpmepgbjmkaaGreatDoor
open Go.RowKit

theorem tn_ne_zero {v : Nat} (h : 0 < v) : ((tn v).toList == [48]) = false := by rw [tn_zero, decide_eq_false (by omega)]
theorem val_one {b : List Int} (h : b.length = 1) : val b = b.getD 0 0 := by
  match b, h with
  | [x], _ => simp [Go.Proofs.YtmfkpmepgbjmkaaGreatDoor.val]
theorem nat_div {u v : Nat} {d r : Int} (hv : 0 < v) (h : (u : Int) = (v : Int) * d + r) (r0 : 0 ≤ r) (r1 : r < (v : Int)) : d.toNat = u / v ∧ r.toNat = u % v := by
  have h1 : (u : Int) / (v : Int) = d := by
    rw [h, Int.add_comm, Int.add_mul_ediv_left _ _ (by omega), Int.ediv_eq_zero_of_lt r0 r1, Int.zero_add]
  have h2 : (u : Int) % (v : Int) = r := by
    rw [h, Int.add_comm, Int.add_mul_emod_self_left, Int.emod_eq_of_lt r0 r1]
  rw [← Int.natCast_ediv] at h1
  rw [← Int.natCast_emod] at h2
  exact ⟨by rw [← h1]; rfl, by rw [← h2]; rfl⟩

def DivModPost (u v : Nat) (w : World) (e : Ending) (w' : World) : Prop :=
  e = .returned (.tuple #[.string (tn (u / v)), .string (tn (u % v)), .int .i64 0]) ∧ Below w.heap.size w w'

set_option maxRecDepth 100000 in
set_option maxHeartbeats 1600000 in
theorem ddivmod_short (u v : Nat) (hu : (tn u).size ≤ 18) (hv : (tn v).size ≤ 18) (hv0 : 0 < v) (w : World) (hG : GOk w) :
    Calls Tryz.prog 92 #[.string (tn u), .string (tn v)] w (DivModPost u v w) := by
  have h1 := short_of hu
  have h2 := short_of hv
  have S := Lib.hid (fun W => both_short u v hu hv W)
  have h3 : u / v ≤ u := Nat.div_le_self _ _
  have h4 : u % v < v := Nat.mod_lt _ hv0
  have hD1 := Lib.hid (fun W (hg : GOk W) => dec_of (u / v) (by omega) W hg)
  have hD2 := Lib.hid (fun W (hg : GOk W) => dec_of (u % v) (by omega) W hg)
  have hnz := tn_ne_zero hv0
  obtain ⟨X, hX⟩ : ∃ X : Int, X = (u : Int) := ⟨_, rfl⟩
  obtain ⟨Y, hY⟩ : ∃ Y : Int, Y = (v : Int) := ⟨_, rfl⟩
  obtain ⟨q, hq⟩ : ∃ q, q = u / v := ⟨_, rfl⟩
  obtain ⟨r, hr⟩ : ∃ r, r = u % v := ⟨_, rfl⟩
  rw [← hq] at h3 hD1
  rw [← hr] at h4 hD2
  have e1 : Hid (X / Y = (q : Int)) := Lib.hid (by rw [hX, hY, hq, Int.natCast_ediv])
  have e3 : Hid (X.tdiv Y = (q : Int)) := Lib.hid (by rw [Int.tdiv_eq_ediv_of_nonneg (by omega)]; exact e1.out)
  have e4 : Hid (IntKind.u64.wrap (X.tdiv Y) = (q : Int)) := Lib.hid (by rw [e3.out, IntKind.wrap_u64]; omega)
  have f1 : Hid (X % Y = (r : Int)) := Lib.hid (by rw [hX, hY, hr, Int.natCast_emod])
  have f3 : Hid (X.tmod Y = (r : Int)) := Lib.hid (by rw [Int.tmod_eq_emod_of_nonneg (by omega)]; exact f1.out)
  have f4 : Hid (IntKind.u64.wrap (X.tmod Y) = (r : Int)) := Lib.hid (by rw [f3.out, IntKind.wrap_u64]; omega)
  have HQ := Lib.hid (And.intro hq hr)
  have b1 : X < 1000000000000000000 := by omega
  have b2 : Y < 1000000000000000000 := by omega
  have b3 : 0 < Y := by omega
  have b4 : 0 ≤ X := by omega
  rw [← hX, ← hY] at S
  clear hX hY hv0 h1 h2 h3 h4 hq hr
  obtain ⟨x, hx⟩ : ∃ x, x = tn u := ⟨_, rfl⟩
  obtain ⟨y, hy⟩ : ∃ y, y = tn v := ⟨_, rfl⟩
  rw [← hx] at S hu ⊢
  rw [← hy] at S hv hnz ⊢
  clear hx hy
  go_enter Tryz.func92, Tryz.ntmps92
  go_wp2_with (go_at_call 130; refine (S.out _).mono ?_; rintro e w1 ⟨rfl, hb1⟩)
  have HG := Lib.hid (hG.below hb1)
  go_region_with (first
    | (go_at_call 131; first | rw [e4.out] | rw [e3.out] | rw [e1.out]
       refine (hD1.out _ (by first | exact HG.out.drew | exact HG.out.drew.below (by assumption) | exact HG.out | exact HG.out.below (by assumption) | exact HG.out.drew.drew.below (by assumption))).mono ?_; rintro e w2 ⟨rfl, hb2⟩)
    | (go_at_call 131; first | rw [f4.out] | rw [f3.out] | rw [f1.out]
       refine (hD2.out _ (by first | exact HG.out.drew | exact HG.out.drew.below (by assumption) | exact HG.out | exact HG.out.below (by assumption) | exact HG.out.drew.drew.below (by assumption))).mono ?_; rintro e w3 ⟨rfl, hb3⟩))
  all_goals go_wp2_with fail
  all_goals go_ret3
  all_goals
    refine ⟨?_, ?_⟩
    · rw [← HQ.out.1, ← HQ.out.2]
      rfl
    · first
        | exact nb_trans hb1 (nb_trans (nb_drew _) (nb_trans hb2 hb3))
        | exact nb_trans hb1 (nb_trans (nb_drew _) (nb_trans hb3 hb2))
        | exact nb_trans hb1 (nb_trans (nb_drew _) (nb_trans hb2 (nb_trans hb3 (nb_drew _))))

/-- What the long cases of DivMod know of the two numbers. -/
structure DmSt (u v : Nat) (w0 w1 w2 : World) (A1 A2 : Option Addr) (c1 c2 : Nat) (a b : List Int) : Prop where
  va : val a = (u : Int)
  vb : val b = (v : Int)
  ra : Rd .u64 w2 A1 a.length a
  rb : Rd .u64 w2 A2 b.length b
  da : Dig a
  db : Dig b
  ta : Top a
  tb : Top b
  la : a.length ≤ 11111111112
  lb : b.length ≤ 11111111112
  nb : Below w0.heap.size w0 w2

set_option maxRecDepth 100000 in
set_option maxHeartbeats 1600000 in
theorem ddivmod_long (u v : Nat) (hu : Zn u) (hv : Zn v) (hs : 18 < (tn u).size ∨ 18 < (tn v).size) (hv0 : 0 < v) (w : World) (hG : GOk w) :
    Calls Tryz.prog 92 #[.string (tn u), .string (tn v)] w (DivModPost u v w) := by
  unfold Zn at hu hv
  have C1 := Lib.hid (fun W => cut_any u W (by omega))
  have C2 := Lib.hid (fun W => cut_any v W (by omega))
  have S := Lib.hid (fun W => both_long (tn u) (tn v) hs (by omega) (by omega) W)
  have hnz := tn_ne_zero hv0
  clear hs
  obtain ⟨x, hx⟩ : ∃ x, x = tn u := ⟨_, rfl⟩
  obtain ⟨y, hy⟩ : ∃ y, y = tn v := ⟨_, rfl⟩
  rw [← hx] at S C1 hu ⊢
  rw [← hy] at S C2 hv hnz ⊢
  have HX := Lib.hid hx
  clear hx hy
  go_enter Tryz.func92, Tryz.ntmps92
  go_upto_region 7 with (first
    | (go_at_call 130; refine (S.out _).mono ?_; rintro e w1 ⟨rfl, hb1⟩)
    | (go_at_call 132; have _t := HP2; refine (C2.out _).mono ?_; rintro e w3 ⟨v3, b, rfl, hp, hv, hl, hb⟩
       obtain ⟨A1, c1, hv1, _, _, hr1⟩ := own_rd HP2.out.own
       obtain ⟨A2, c2, hv2, _, _, hr2⟩ := own_rd hp.own
       have hst : DmSt u v w1 w2 w3 A1 A2 c1 c2 a b := ⟨HV2.out, hv, hr1.nb hb, hr2, HP2.out.dig, hp.dig, HP2.out.top, hp.top, (by have := HL2.out; omega), (by omega), nb_trans HB2.out hb⟩
       have HST := Lib.hid hst
       subst hv1 hv2
       clear hp hv hl hb hr1 hr2 hst)
    | (go_at_call 132; refine (C1.out _).mono ?_; rintro e w2 ⟨v2, a, rfl, hp, hv, hl, hb⟩; have HP2 := Lib.hid hp; have HV2 := Lib.hid hv; have HL2 := Lib.hid hl; have HB2 := Lib.hid hb; clear hp hv hl hb))
  obtain ⟨n, hn⟩ : ∃ n, n = a.length := ⟨_, rfl⟩
  obtain ⟨m, hm⟩ : ∃ m, m = b.length := ⟨_, rfl⟩
  have hra : Hid (Rd .u64 w3 A1 n a) := by rw [hn]; exact HST.out.ra
  have hrb : Hid (Rd .u64 w3 A2 m b) := by rw [hm]; exact HST.out.rb
  have hna : n ≤ 11111111112 := by rw [hn]; exact HST.out.la
  have hma : m ≤ 11111111112 := by rw [hm]; exact HST.out.lb
  rw [← hn, ← hm]
  have HN := Lib.hid (And.intro hn hm)
  have HB : Hid (Below w.heap.size w w3) := nb_trans hb1 HST.out.nb
  have HG := Lib.hid (hG.below HB.out)
  clear hn hm hb1 hG
  have hcm : Hid (cmp (val a) (val b) = cmp u v) := Lib.hid (by rw [HST.out.va, HST.out.vb])
  have CM := Lib.hid (fun W (h : Below w3.heap.size w3 W) => compare_any A1 A2 n m c1 c2 a b W (hra.out.nb h) (hrb.out.nb h) (by omega) (by omega) HST.out.da HST.out.db HST.out.ta HST.out.tb)
  rw [hcm.out] at CM
  by_cases hlt : u < v
  · have hc : cmp u v < 0 := by rw [cmp_lt (by omega)]; decide
    go_wp2_with (go_at_call 133; refine (CM.out _ (nb_refl _)).mono ?_; rintro e w4 ⟨rfl, hb4⟩)
    go_ret3
    refine ⟨?_, nb_trans HB.out hb4⟩
    rw [Nat.div_eq_of_lt hlt, Nat.mod_eq_of_lt hlt, ← HX.out]
    exact congrArg (fun z => Ending.returned (Value.tuple #[Value.string z, Value.string x, Value.int .i64 0])) (by decide +kernel)
  · have hc : ¬ cmp u v < 0 := by
      rcases Nat.lt_or_ge v u with h' | h'
      · rw [cmp_gt (by omega)]; decide
      · rw [cmp_eq (by omega)]; decide
    have hvb := HST.out.vb
    have hm0 : 0 < m := by
      rcases Nat.eq_zero_or_pos m with h | h
      · have : b = [] := List.eq_nil_of_length_eq_zero (by rw [← HN.out.2]; exact h)
        rw [this] at hvb
        have : (0 : Int) = (v : Int) := hvb
        omega
      · exact h
    have HV := Lib.hid hvb
    clear hvb
    by_cases hm1 : m = 1
    · subst hm1
      obtain ⟨g2, hA2, cb⟩ := hrb.out.at_ (i := 0) hm0
      obtain ⟨d, hd⟩ : ∃ d, d = b.getD 0 0 := ⟨_, rfl⟩
      obtain ⟨d0, d1⟩ := HST.out.db.at_ 0
      rw [← hd] at cb d0 d1
      have hdv : Hid (d = (v : Int)) := by rw [hd, ← val_one (by rw [← HN.out.2])]; exact HV.out
      have d2 : 0 < d := by rw [hdv.out]; omega
      subst hA2
      clear hd
      go_wp2_with (first
        | (go_at_call 133; refine (CM.out _ (nb_refl _)).mono ?_; rintro e w4 ⟨rfl, hb4⟩; have cb4 := cellB hb4 cb)
        | (go_at_call 134; refine (smallDiv_any A1 n c1 d a _ (hra.out.nb hb4) (by omega) HST.out.da d2 (by omega)).mono ?_
           rintro e w5 ⟨v5, q5, r5, rfl, hp5, hv5, hr0, hr1, hl5, hb5⟩
           obtain ⟨A5, c5, hw5, _, _, hr5⟩ := own_rd hp5.own
           subst hw5
           have H5 := Lib.hid (And.intro hp5 (And.intro hv5 (And.intro hl5 hr5)))
           clear hp5 hv5 hl5 hr5)
        | (go_at_call 135; refine (text_any A5 q5.length c5 q5 _ H5.out.2.2.2 (by have := H5.out.2.2.1; have := HN.out.1; omega) H5.out.1.dig H5.out.1.top).mono ?_; rintro e w6 ⟨rfl, hb6⟩
           have hrn : Hid (r5 = ((r5.toNat : Nat) : Int)) := Lib.hid (by omega))
        | (go_at_call 131; rw [hrn.out]; refine (dec_of r5.toNat (by omega) _ ((HG.out.below hb4).below (nb_trans hb5 hb6))).mono ?_; rintro e w7 ⟨rfl, hb7⟩))
      go_ret3
      obtain ⟨z1, z2⟩ := nat_div (u := u) (v := v) (d := val q5) (r := r5) hv0 (by rw [← hdv.out, ← HST.out.va]; exact H5.out.2.1) hr0 (by rw [← hdv.out]; exact hr1)
      refine ⟨?_, nb_trans HB.out (nb_trans hb4 (nb_trans hb5 (nb_trans hb6 hb7)))⟩
      rw [← z1, ← z2]
      rfl
    · have hm1' : ¬ (m : Int) = 1 := by omega
      have hm2 : (m : Int) ≠ 1 := by omega
      have hmn : m ≤ n := by
        rw [HN.out.1, HN.out.2]
        exact cut_len HST.out.da HST.out.db HST.out.tb HST.out.va HST.out.vb (by omega)
      go_wp2_with (first
        | (go_at_call 133; refine (CM.out _ (nb_refl _)).mono ?_; rintro e w4 ⟨rfl, hb4⟩)
        | (go_at_call 136; refine (divide_any A1 A2 n c1 m c2 a b _ (hra.out.nb hb4) (hrb.out.nb hb4) (by omega) (by omega) hmn HST.out.da HST.out.db HST.out.ta HST.out.tb).mono ?_
           rintro e w5 ⟨v5, v6, q5, r5, rfl, hp5, hp6, hv5, hv6, hl5, hl6, hb5⟩
           obtain ⟨A5, c5, hw5, _, _, hr5⟩ := own_rd hp5.own
           obtain ⟨A6, c6, hw6, _, _, hr6⟩ := own_rd hp6.own
           subst hw5 hw6
           have H5 := Lib.hid (And.intro hp5 (And.intro hp6 (And.intro hv5 (And.intro hv6 (And.intro hl5 hl6)))))
           have HR := Lib.hid (And.intro hr5 hr6)
           clear hp5 hp6 hv5 hv6 hl5 hl6 hr5 hr6)
        | (go_at_call 135; have _t := hb6; refine (text_any A6 r5.length c6 r5 _ (HR.out.2.nb hb6) (by have := H5.out.2.2.2.2.2; have := HN.out.1; omega) H5.out.2.1.dig H5.out.2.1.top).mono ?_; rintro e w7 ⟨rfl, hb7⟩)
        | (go_at_call 135; refine (text_any A5 q5.length c5 q5 _ HR.out.1 (by have := H5.out.2.2.2.2.1; have := HN.out.1; omega) H5.out.1.dig H5.out.1.top).mono ?_; rintro e w6 ⟨rfl, hb6⟩))
      go_ret3
      obtain ⟨z1, z2⟩ := nat_div (u := u) (v := v) (d := val q5) (r := val r5) hv0 (by rw [← HST.out.va, ← HST.out.vb]; exact H5.out.2.2.1) (val_nonneg H5.out.2.1.dig) (by rw [← HST.out.vb]; exact H5.out.2.2.2.1)
      refine ⟨?_, nb_trans HB.out (nb_trans hb4 (nb_trans hb5 (nb_trans hb6 hb7)))⟩
      rw [← z1, ← z2]
      rfl

theorem ddivmod_any (u v : Nat) (hu : Zn u) (hv : Zn v) (hv0 : 0 < v) (w : World) (hG : GOk w) :
    Calls Tryz.prog 92 #[.string (tn u), .string (tn v)] w (DivModPost u v w) := by
  by_cases hs : (tn u).size ≤ 18 ∧ (tn v).size ≤ 18
  · exact ddivmod_short u v hs.1 hs.2 hv0 w hG
  · exact ddivmod_long u v hu hv (by omega) hv0 w hG
end Go.Proofs.YtmfkpmepgbjmkaaGreatDoor

namespace Go.Proofs.YtmfkpmepgbjmkaaGreatDoor
open Go.RowKit

set_option maxRecDepth 100000 in
set_option maxHeartbeats 1600000 in
theorem dadd_short (u v : Nat) (hu : (tn u).size ≤ 18) (hv : (tn v).size ≤ 18) (w : World) (hG : GOk w) :
    Calls Tryz.prog 93 #[.string (tn u), .string (tn v)] w fun e w' => e = .returned (.string (tn (u + v))) ∧ Below w.heap.size w w' := by
  have h1 := short_of hu
  have h2 := short_of hv
  have S := Lib.hid (fun W => both_short u v hu hv W)
  have hD := Lib.hid (fun W (hg : GOk W) => dec_of (u + v) (by omega) W hg)
  obtain ⟨X, hX⟩ : ∃ X : Int, X = (u : Int) := ⟨_, rfl⟩
  obtain ⟨Y, hY⟩ : ∃ Y : Int, Y = (v : Int) := ⟨_, rfl⟩
  have e1 : Hid (X + Y = ((u + v : Nat) : Int)) := Lib.hid (by omega)
  have b1 : X < 1000000000000000000 := by omega
  have b2 : Y < 1000000000000000000 := by omega
  have b3 : 0 ≤ Y := by omega
  have b4 : 0 ≤ X := by omega
  rw [← hX, ← hY] at S
  clear hX hY h1 h2
  obtain ⟨x, hx⟩ : ∃ x, x = tn u := ⟨_, rfl⟩
  obtain ⟨y, hy⟩ : ∃ y, y = tn v := ⟨_, rfl⟩
  rw [← hx] at S hu ⊢
  rw [← hy] at S hv ⊢
  clear hx hy
  go_enter Tryz.func93, Tryz.ntmps93
  go_wp2_with (first
    | (go_at_call 130; refine (S.out _).mono ?_; rintro e w1 ⟨rfl, hb1⟩)
    | (go_at_call 131; rw [e1.out]; refine (hD.out _ (hG.below hb1)).mono ?_; rintro e w2 ⟨rfl, hb2⟩))
  go_ret
  exact ⟨rfl, nb_trans hb1 hb2⟩

/-- The two rows of a sum, the longer one first. -/
structure AdSt (t : Nat) (w1 w : World) (A A' : Option Addr) (n c m c' : Nat) (P Q : List Int) : Prop where
  o1 : w.ownsRow w1.heap.size 166 1 (.slice A n c) n (U P)
  o2 : w.ownsRow w1.heap.size 166 1 (.slice A' m c') m (U Q)
  ne : ∀ g, A = some ⟨g, 0, none⟩ → A' ≠ some ⟨g, 0, none⟩
  d1 : Dig P
  d2 : Dig Q
  l1 : P.length = n
  l2 : Q.length = m
  sum : val P + val Q = (t : Int)
  nb : Below w1.heap.size w1 w
theorem own_shape {base n c : Nat} {w : World} {A : Option Addr} {xs : List Value} {T : TypeId} (h : w.ownsRow base T 1 (.slice A n c) n xs) : A = none ∨ ∃ g, A = some ⟨g, 0, none⟩ ∧ base ≤ g ∧ g < w.heap.size := by
  rcases h.2 with ⟨h1, _⟩ | ⟨g, cap, cur, h1, h2, h3, _⟩
  · injection h1 with e; exact .inl e
  · injection h1 with e; exact .inr ⟨g, e, h2, (Array.getElem?_eq_some_iff.1 h3).1⟩
theorem back_sum {t : Nat} {P o es : List Int} {c : Int} {m : Nat} (hs : val P + val es = (t : Int)) (hP : Dig P) (hE : Dig es) (hl : P.length = m) (he : es.length = m) (ho : Dig o) (hol : o.length = m + 1) (c0 : 0 ≤ c) (c1 : c ≤ 1)
    (hv : val o + B9 ^ (0 + (m + 1)) * c = val (P ++ [0]) + B9 ^ 0 * val es) : val o = (t : Int) := by
  rw [val_snoc, Int.mul_zero, Int.add_zero, Int.pow_zero, Int.one_mul, hs, Nat.zero_add] at hv
  have h1 := val_lt hP
  have h2 := val_lt hE
  rw [hl] at h1
  rw [he] at h2
  have h3 : B9 ^ (m + 1) = B9 ^ m * 1000000000 := Int.pow_succ _ _
  have h4 := pow_pos9 m
  have h5 := val_nonneg ho
  rcases Int.lt_or_le c 1 with h | h
  · have : c = 0 := by omega
    subst this
    rw [Int.mul_zero] at hv
    omega
  · have : c = 1 := by omega
    subst this
    omega

/-- Behind the append of a piece. -/
structure Ad2 (w1 w : World) (ga ca n : Nat) (A' : Option Addr) (m c' : Nat) (P Q : List Int) : Prop where
  cap : n + 1 ≤ ca
  base : w1.heap.size ≤ ga
  ob : OB w ga ca (P ++ [0])
  o2 : w.ownsRow w1.heap.size 166 1 (.slice A' m c') m (U Q)
  ne : ∀ g, A' = some ⟨g, 0, none⟩ → g ≠ ga
  nb : Below w1.heap.size w1 w
theorem add_grow {t n c m c' : Nat} {w1 w3 w4 : World} {A A' : Option Addr} {P Q : List Int} {v4 : Value} {o : Obj} (h : AdSt t w1 w3 A A' n c m c' P Q)
    (hown : w4.ownsRow w1.heap.size 166 1 v4 (n + 1) (U P ++ [Value.int .u64 0])) (hg : (w3.alloc o).grownBy w4 (Value.slice A n c).ownBlock)
    (hat : v4.ownBlock = (Value.slice A n c).ownBlock ∨ v4.ownBlock = some (w3.alloc o).heap.size) : ∃ ga ca, v4 = .slice (some ⟨ga, 0, none⟩) (n + 1) ca ∧ Ad2 w1 w4 ga ca n A' m c' P Q := by
  rw [U_snoc] at hown
  obtain ⟨ga, ca, rfl, q1, q2, q3, q4⟩ := own_OB hown (by omega)
  have s2 := own_shape h.o2
  have hsz : (w3.alloc o).heap.size = w3.heap.size + 1 := by simp
  have hk : (Value.slice A' m c').ownBlock = none ∨ (Value.slice A' m c').ownBlock ≠ (Value.slice A n c).ownBlock := by
    rcases s2 with rfl | ⟨g, rfl, _, _⟩
    · exact .inl rfl
    · right
      intro e
      rcases own_shape h.o1 with rfl | ⟨g', rfl, _, _⟩
      · cases e
      · injection e with e
        have e' : g = g' := e
        subst e'
        exact h.ne g rfl rfl
  refine ⟨ga, ca, rfl, q1, q3, q4, (h.o2.alloc o).kept hg hk, ?_, nb_grown (h.nb.trans (nb_alloc _ _ |>.mono h.nb.size)) (h.o1.alloc o) (Nat.le_refl _) hg⟩
  intro g hA e
  subst e
  rcases s2 with rfl | ⟨g', rfl, _, hlt⟩
  · cases hA
  · injection hA with e
    injection e with e
    subst e
    rcases hat with h1 | h1
    · rcases hk with h2 | h2
      · cases h2
      · exact h2 h1
    · injection h1 with h1
      have h1' : g' = (w3.alloc o).heap.size := h1
      omega
theorem add_zeros {n m c' k ga ca : Nat} {w1 w4 w6 : World} {A' : Option Addr} {P Q : List Int} {v6 : Value} (h : Ad2 w1 w4 ga ca n A' m c' P Q)
    (hown : w6.ownsRow w1.heap.size 166 1 v6 (m + k) (U Q ++ List.replicate k (Value.int .u64 0))) (hg : w4.grownBy w6 (Value.slice A' m c').ownBlock)
    (hat : v6.ownBlock = (Value.slice A' m c').ownBlock ∨ v6.ownBlock = some w4.heap.size) :
    ∃ A6 c6, v6 = .slice A6 (m + k) c6 ∧ Rd .u64 w6 A6 (m + k) (Q ++ List.replicate k 0) ∧ OB w6 ga ca (P ++ [0]) ∧ (∀ g, A6 = some ⟨g, 0, none⟩ → g ≠ ga) ∧ Below w1.heap.size w1 w6 := by
  rw [U_zeros] at hown
  obtain ⟨A6, c6, rfl, _, _, hr⟩ := own_rd hown
  have hlt := h.ob.lt
  have hne : some ga ≠ (Value.slice A' m c').ownBlock := by
    intro e
    rcases own_shape h.o2 with rfl | ⟨g, rfl, _, _⟩
    · cases e
    · injection e with e
      exact h.ne g rfl e.symm
  refine ⟨A6, c6, rfl, hr, h.ob.of_block (hg.block ga hlt hne), ?_, nb_grown h.nb h.o2 (Nat.le_refl _) hg⟩
  intro g hA e
  subst e hA
  rcases hat with h1 | h1
  · exact hne h1
  · injection h1 with h1
    have h1' : g = w4.heap.size := h1
    omega

set_option maxRecDepth 100000 in
set_option maxHeartbeats 3200000 in
theorem dadd_long (u v : Nat) (hu : Zn u) (hv : Zn v) (hs : 18 < (tn u).size ∨ 18 < (tn v).size) (w : World) (hG : GOk w) :
    Calls Tryz.prog 93 #[.string (tn u), .string (tn v)] w fun e w' => e = .returned (.string (tn (u + v))) ∧ Below w.heap.size w w' := by
  unfold Zn at hu hv
  obtain ⟨i0, hi0, hz0, hz1, hz2⟩ := info_parts Tryz.infoU
  have C1 := Lib.hid (fun W => cut_any u W (by omega))
  have C2 := Lib.hid (fun W => cut_any v W (by omega))
  have S := Lib.hid (fun W => both_long (tn u) (tn v) hs (by omega) (by omega) W)
  clear hs
  obtain ⟨x, hx⟩ : ∃ x, x = tn u := ⟨_, rfl⟩
  obtain ⟨y, hy⟩ : ∃ y, y = tn v := ⟨_, rfl⟩
  rw [← hx] at S C1 hu ⊢
  rw [← hy] at S C2 hv ⊢
  clear hx hy
  go_enter Tryz.func93, Tryz.ntmps93
  go_upto_region 5 with (first
    | (go_at_call 130; refine (S.out _).mono ?_; rintro e w1 ⟨rfl, hb1⟩)
    | (go_at_call 132; have _t := HP2; refine (C2.out _).mono ?_; rintro e w3 ⟨v3, b, rfl, hp, hv, hl, hb⟩
       obtain ⟨A1, c1, hv1, _, _, hr1⟩ := own_rd HP2.out.own
       obtain ⟨A2, c2, hv2, _, _, hr2⟩ := own_rd hp.own
       subst hv1 hv2
       have HP3 := Lib.hid hp
       have HV3 := Lib.hid hv
       have HB3 := Lib.hid hb
       have hlb : b.length ≤ 11111111112 := (by omega)
       have hla : a.length ≤ 11111111112 := (by have := HL2.out; omega)
       clear hp hv hl hb hr1 hr2)
    | (go_at_call 132; refine (C1.out _).mono ?_; rintro e w2 ⟨v2, a, rfl, hp, hv, hl, hb⟩; have HP2 := Lib.hid hp; have HV2 := Lib.hid hv; have HL2 := Lib.hid hl; have HB2 := Lib.hid hb; clear hp hv hl hb))
  have hne : Hid (∀ g, A1 = some ⟨g, 0, none⟩ → A2 ≠ some ⟨g, 0, none⟩) := Lib.hid (fun g h1 h2 => by
    have q1 := HP2.out.own.lt g (by rw [h1]; rfl)
    have q2 := HP3.out.own.lt g (by rw [h2]; rfl)
    omega)
  obtain ⟨n, hn⟩ : ∃ n, n = a.length := ⟨_, rfl⟩
  obtain ⟨m, hm⟩ : ∃ m, m = b.length := ⟨_, rfl⟩
  rw [← hn, ← hm]
  rw [← hn] at hla
  rw [← hm] at hlb
  have s1 : Hid (AdSt (u + v) w1 w3 A1 A2 n c1 m c2 a b) := ⟨by rw [hn]; exact own_nb HP2.out.own HB3.out, by rw [hm]; exact (HP3.out.base HB2.out.size).own, hne.out, HP2.out.dig, HP3.out.dig, hn.symm, hm.symm, by rw [HV2.out, HV3.out]; omega, nb_trans HB2.out HB3.out⟩
  have s2 : Hid (AdSt (u + v) w1 w3 A2 A1 m c2 n c1 b a) := ⟨s1.out.o2, s1.out.o1, fun g h1 h2 => hne.out g h2 h1, s1.out.d2, s1.out.d1, s1.out.l2, s1.out.l1, by have := s1.out.sum; omega, s1.out.nb⟩
  clear hn hm HP2 HP3 HV2 HV3 HL2 HB2 HB3
  go_upto_if 30 with fail
  go_cut [8, 9] (fun s8 s9 wx => ∃ A A' n' c m' c' P Q, s8 = .slice A n' c ∧ s9 = .slice A' m' c' ∧ m' ≤ n' ∧ n' ≤ 11111111112 ∧ Hid (AdSt (u + v) w1 w3 A A' n' c m' c' P Q) ∧ wx = w3)
  case first =>
    rcases Nat.lt_or_ge n m with h | h
    · have h' : (n : Int) < (m : Int) := by omega
      go_wp2_with fail
      go_meet
      exact ⟨A2, A1, m, c2, n, c1, b, a, rfl, rfl, by omega, hlb, s2, rfl⟩
    · have h' : ¬ (n : Int) < (m : Int) := by omega
      go_wp2_with fail
      go_meet
      exact ⟨A1, A2, n, c1, m, c2, a, b, rfl, rfl, h, hla, s1, rfl⟩
  case rest =>
    obtain ⟨A, A', n', c, m', c', P, Q, rfl, rfl, hmn, hn', hst, hwx⟩ := hcut
    obtain ⟨k, hk⟩ : ∃ k : Nat, n' = m' + k := ⟨n' - m', by omega⟩
    have hwx' := hwx.symm
    clear hwx
    subst hk hwx'
    go_upto_region 8 with (at_builtin
                           refine wpList_append_own_at _ rfl _ _ 171 rfl w1.heap.size 166 i0 (.int .u64 0) 1 8 Tryz.underlying171 hi0 hz0 hz1 hz2 rfl (by decide) (.slice A (m' + k) c) (m' + k) (U P) rfl (hst.out.o1.alloc _) ⟨w3.heap.size, 0, none⟩ 1 1 [.int .u64 0] rfl rfl (cell_one_new _ _ _) (by intro u hu; simp at hu; subst hu; rfl) (by unfold maxLen; omega) (by omega) (by have := hst.out.nb.size; simp; omega) ?_
                           intro v4 w4 hown4 hgrow4 hnil4 hat4
                           obtain ⟨ga, ca, rfl, h4⟩ := add_grow hst.out hown4 hgrow4 hat4
                           have H4 := Lib.hid h4
                           clear hown4 hgrow4 hnil4 hat4 h4)
    go_upto_region 9 with (first
      | (at_builtin
         obtain ⟨v6, w6, hr6, ho6, hg6, hat6⟩ := run_append_own_zeros (P := Tryz.prog) w4 w1.heap.size 171 3 171 166 i0 (.int .u64 0) .i64 Tryz.underlying171 Tryz.underlying3 hi0 hz0 hz1 hz2 rfl rfl (.slice A' m' c') m' (U Q) H4.out.o2 k (by omega) H4.out.nb.size
         rw [show ((k : Nat) : Int) = (m' : Int) + (k : Int) - (m' : Int) by omega] at hr6
         refine Lib.wpList_append_run _ rfl _ _ _ _ rfl _ _ rfl rfl v6 w6 hr6 ?_
         obtain ⟨A6, c6, rfl, h6⟩ := add_zeros H4.out ho6 hg6 hat6
         have H6 := Lib.hid h6
         clear hr6 ho6 hg6 hat6 h6)
      | (go_at_call 137
         refine (back_any ga (m' + k + 1) ca (m' + k) c6 0 A6 (P ++ [0]) (Q ++ List.replicate k 0) w6 (by rw [List.length_append, List.length_singleton, hst.out.l1]) H6.out.2.1 H6.out.1 H6.out.2.2.1 (by omega) (by omega) (hst.out.d1.append (fun d hd => by rw [List.mem_singleton.1 hd]; decide)) (hst.out.d2.append (Dig.zeros k))).mono ?_
         rintro e w7 ⟨cc, o, rfl, hob7, hol7, hdo7, hfar7, hval7, hc0, hc1, hkp7⟩
         have hol8 : o.length = m' + k + 1 := (by rw [hol7, List.length_append, List.length_singleton, hst.out.l1])
         have hv8 : val o = ((u + v : Nat) : Int) := back_sum (m := m' + k) (P := P) (es := Q ++ List.replicate k 0) (by rw [val_zeros_end]; exact hst.out.sum) hst.out.d1 (hst.out.d2.append (Dig.zeros k)) hst.out.l1 (by rw [List.length_append, List.length_replicate, hst.out.l2]) hdo7 hol8 hc0 hc1 hval7
         have H7 := Lib.hid (And.intro hob7 (And.intro hol8 (And.intro hdo7 hv8)))
         have HK7 := Lib.hid hkp7
         clear hob7 hol7 hdo7 hfar7 hval7 hol8 hv8 hkp7 hc0 hc1))
    go_wp2_with (first
      | (go_at_call 138; refine (trim_any (some ⟨ga, 0, none⟩) (m' + k + 1) ca o _ (H7.out.1.rd H7.out.2.1) H4.out.cap (by omega)).mono ?_; rintro e w8 ⟨t, ht, rfl, rfl⟩; have HT := Lib.hid ht; clear ht)
      | (go_at_call 135; refine (text_any (some ⟨ga, 0, none⟩) t ca (o.take t) _ ((H7.out.1.rd H7.out.2.1).take (by have := HT.out.1; rw [H7.out.2.1] at this; exact this)) (by have := HT.out.1; have := H7.out.2.1; omega) (H7.out.2.2.1.take t) (trims_parts HT.out).1).mono ?_; rintro e w9 ⟨rfl, hb9⟩))
    go_ret
    refine ⟨?_, ?_⟩
    · rw [(trims_parts HT.out).2.1, H7.out.2.2.2]
      rfl
    · have hb7 := H6.out.2.2.2
      exact nb_trans hb1 ((hb7.trans (HK7.out.below (B := w1.heap.size) hb7.size (fun i hi => by rw [hi]; exact H4.out.base))).trans (hb9.mono (Nat.le_trans hb7.size HK7.out.size)))
theorem dadd_any (u v : Nat) (hu : Zn u) (hv : Zn v) (w : World) (hG : GOk w) :
    Calls Tryz.prog 93 #[.string (tn u), .string (tn v)] w fun e w' => e = .returned (.string (tn (u + v))) ∧ Below w.heap.size w w' := by
  by_cases hs : (tn u).size ≤ 18 ∧ (tn v).size ≤ 18
  · exact dadd_short u v hs.1 hs.2 w hG
  · exact dadd_long u v hu hv (by omega) w hG
end Go.Proofs.YtmfkpmepgbjmkaaGreatDoor
