/-
  WALKS: decimal.Add, Sub, Mul, DivMod.
-/
import Derived.Test.YtmfkpmepgbjmkaaGreatDoorDcmp
import Derived.Deep.CutBlock
set_option linter.unusedVariables false
set_option linter.unusedSimpArgs false
namespace Go.Proofs.YtmfkpmepgbjmkaaGreatDoor
open Go.RowKit

/-- A size at which no walk of a natural number's text is short of room. -/
def Zn (u : Nat) : Prop := (tn u).size ≤ 100000000000
theorem short_of {u k : Nat} (h : (tn u).size ≤ k) : u < 10 ^ k := lt_of_tn h

set_option maxRecDepth 100000 in
set_option maxHeartbeats 1600000 in
theorem dmul_any (u v : Nat) (hu : Zn u) (hv : Zn v) (w : World) (hG : GOk w) :
    Calls Tryz.prog 96 #[.string (tn u), .string (tn v)] w fun e w' => e = .returned (.string (tn (u * v))) ∧ Below w.heap.size w w' := by
  unfold Zn at hu hv
  by_cases hs : (tn u).size + (tn v).size ≤ 18
  · have hs' : ((tn u).size : Int) + ((tn v).size : Int) ≤ 18 := by omega
    have h1 := short_of (u := u) (k := (tn u).size) (Nat.le_refl _)
    have h2 := short_of (u := v) (k := (tn v).size) (Nat.le_refl _)
    have h3 : u * v < 10 ^ ((tn u).size + (tn v).size) := by rw [Nat.pow_add]; exact Nat.mul_lt_mul'' h1 h2
    have h4 : u * v < 10 ^ 18 := Nat.lt_of_lt_of_le h3 (Nat.pow_le_pow_right (by decide) hs)
    have h5 : (u : Int) * (v : Int) < 1000000000000000000 := by rw [← Int.natCast_mul]; omega
    have h6 : 0 ≤ (u : Int) * (v : Int) := by rw [← Int.natCast_mul]; omega
    have S := Lib.hid (fun W => both_short u v (by omega) (by omega) W)
    have hD := Lib.hid (fun W (hg : GOk W) => dec_of (u * v) (by omega) W hg)
    clear h1 h2 h3 h4
    go_enter Tryz.func96, Tryz.ntmps96
    go_wp2_with (first
      | (go_at_call 130; refine (S.out _).mono ?_; rintro e w1 ⟨rfl, hb1⟩)
      | (go_at_call 131; rw [← Int.natCast_mul]; refine (hD.out _ (hG.below hb1)).mono ?_; rintro e w2 ⟨rfl, hb2⟩))
    go_ret
    exact ⟨rfl, nb_trans hb1 hb2⟩
  · have hs' : ¬ ((tn u).size : Int) + ((tn v).size : Int) ≤ 18 := by omega
    have C1 := Lib.hid (fun W => cut_any u W (by omega))
    have C2 := Lib.hid (fun W => cut_any v W (by omega))
    obtain ⟨x, hx⟩ : ∃ x, x = tn u := ⟨_, rfl⟩
    obtain ⟨y, hy⟩ : ∃ y, y = tn v := ⟨_, rfl⟩
    rw [← hx] at C1 hs hs' hu ⊢
    rw [← hy] at C2 hs hs' hv ⊢
    clear hx hy
    go_enter Tryz.func96, Tryz.ntmps96
    go_wp2_with (first
      | (go_at_call 132; have _t := HB1; refine (C2.out _).mono ?_; rintro e w2 ⟨v2, b, rfl, hp, hv, hl, hb⟩; have HP2 := Lib.hid hp; have HV2 := Lib.hid hv; have HL2 := Lib.hid hl; have HB2 := Lib.hid hb; clear hp hv hl hb
         obtain ⟨A1, c1, hv1, _, _, hr1⟩ := own_rd HP1.out.own
         obtain ⟨A2, c2, hv2, _, _, hr2⟩ := own_rd HP2.out.own
         subst hv1 hv2
         have HR1 := Lib.hid hr1
         have HR2 := Lib.hid hr2
         clear hr1 hr2)
      | (go_at_call 132; refine (C1.out _).mono ?_; rintro e w1 ⟨v1, a, rfl, hp, hv, hl, hb⟩; have HP1 := Lib.hid hp; have HV1 := Lib.hid hv; have HL1 := Lib.hid hl; have HB1 := Lib.hid hb; clear hp hv hl hb)
      | (go_at_call 141; refine (times_any A1 A2 a.length b.length c1 c2 a b w2 (HR1.out.nb HB2.out) HR2.out (by have := HL1.out; omega) (by have := HL2.out; omega) HP1.out.dig HP2.out.dig).mono ?_; rintro e w3 ⟨v3, o, rfl, hp, hv, hl, hb⟩; have HP3 := Lib.hid hp; have HV3 := Lib.hid hv; have HL3 := Lib.hid hl; have HB3 := Lib.hid hb; clear hp hv hl hb
         obtain ⟨A3, c3, hv3, _, _, hr3⟩ := own_rd HP3.out.own
         subst hv3
         have HR3 := Lib.hid hr3
         clear hr3)
      | (go_at_call 135; refine (text_any A3 o.length c3 o w3 HR3.out (by have := HL1.out; have := HL2.out; have := HL3.out; omega) HP3.out.dig HP3.out.top).mono ?_; rintro e w4 ⟨rfl, hb4⟩))
    go_ret
    refine ⟨?_, nb_trans (nb_trans (nb_trans HB1.out HB2.out) HB3.out) hb4⟩
    refine ret_str ?_
    congr 1
    rw [HV3.out, HV1.out, HV2.out, ← Int.natCast_mul]
    rfl
theorem val_zeros_end (b : List Int) (k : Nat) : val (b ++ List.replicate k 0) = val b := by
  rw [val_append, val_zeros, Int.mul_zero, Int.add_zero]
theorem cut_len {u v : Nat} {a b : List Int} (ha : Dig a) (hb : Dig b) (tb : Top b) (hu : val a = (u : Int)) (hv : val b = (v : Int)) (h : v ≤ u) : b.length ≤ a.length :=
  top_len ha hb tb (by rw [hu, hv]; omega)
/-- What take leaves of a difference. -/
theorem take_diff {u v : Nat} {a o es : List Int} {bb : Bool} {m : Nat} (ha : val a = (u : Int)) (he : val es = (v : Int)) (h : v ≤ u) (ho : Dig o) (hl : o.length = m + 1)
    (hv : val o + B9 ^ 0 * (1 * val es) = val a + B9 ^ (0 + (m + 1)) * (if bb then 1 else 0)) : val o = ((u - v : Nat) : Int) := by
  have h1 := val_lt ho
  rw [hl] at h1
  rw [Nat.zero_add, Int.pow_zero, Int.one_mul, Int.one_mul, ha, he] at hv
  cases bb
  · simp at hv
    omega
  · simp at hv
    omega
theorem own_blocks {n c g : Nat} {w6 w3 : World} {A : Option Addr} {xs : List Value} (h : w6.ownsRow w3.heap.size 166 1 (.slice A n c) n xs) (hg : g < w3.heap.size) : ∀ g', A = some ⟨g', 0, none⟩ → g' ≠ g := by
  intro g' hA
  have := (h.lt g' (by rw [hA]; rfl)).1
  omega
theorem U_snoc (a : List Int) (x : Int) : U a ++ [Value.int .u64 x] = U (a ++ [x]) := by simp [U]
theorem U_zeros (a : List Int) (k : Nat) : U a ++ List.replicate k (Value.int .u64 0) = U (a ++ List.replicate k 0) := by simp [U]

set_option maxRecDepth 100000 in
set_option maxHeartbeats 1600000 in
theorem dsub_any (u v : Nat) (hu : Zn u) (hv : Zn v) (hvu : v ≤ u) (w : World) (hG : GOk w) :
    Calls Tryz.prog 94 #[.string (tn u), .string (tn v)] w fun e w' => e = .returned (.tuple #[.string (tn (u - v)), .int .i64 0]) ∧ Below w.heap.size w w' := by
  unfold Zn at hu hv
  obtain ⟨i0, hi0, hz0, hz1, hz2⟩ := info_parts Tryz.infoU
  have HC := Lib.hid (fun W => dcompare_any u v (by omega) (by omega) W)
  have hc0 : ¬ cmp u v < 0 := by
    rcases Nat.lt_or_ge v u with h' | h'
    · rw [cmp_gt (by omega)]; decide
    · rw [cmp_eq (by omega)]; decide
  by_cases hs : (tn u).size ≤ 18 ∧ (tn v).size ≤ 18
  · have h1 := short_of hs.1
    have h2 := short_of hs.2
    have S := Lib.hid (fun W => both_short u v hs.1 hs.2 W)
    have hD := Lib.hid (fun W (hg : GOk W) => dec_of (u - v) (by omega) W hg)
    obtain ⟨X, hX⟩ : ∃ X : Int, X = (u : Int) := ⟨_, rfl⟩
    obtain ⟨Y, hY⟩ : ∃ Y : Int, Y = (v : Int) := ⟨_, rfl⟩
    have e1 : Hid (X - Y = ((u - v : Nat) : Int)) := Lib.hid (by omega)
    have b1 : X < 1000000000000000000 := by omega
    have b2 : Y ≤ X := by omega
    have b3 : 0 ≤ Y := by omega
    rw [← hX, ← hY] at S HC
    rw [← hX, ← hY] at hc0
    clear hX hY hvu h1 h2 hs
    obtain ⟨x, hx⟩ : ∃ x, x = tn u := ⟨_, rfl⟩
    obtain ⟨y, hy⟩ : ∃ y, y = tn v := ⟨_, rfl⟩
    rw [← hx] at S HC hu ⊢
    rw [← hy] at S HC hv ⊢
    clear hx hy
    go_enter Tryz.func94, Tryz.ntmps94
    go_wp2_with (first
      | (go_at_call 139; refine (HC.out _).mono ?_; rintro e w0 ⟨rfl, hb0⟩)
      | (go_at_call 130; refine (S.out _).mono ?_; rintro e w1 ⟨rfl, hb1⟩)
      | (go_at_call 131; rw [e1.out]; refine (hD.out _ ((hG.below hb0).below hb1)).mono ?_; rintro e w2 ⟨rfl, hb2⟩))
    go_ret2
    exact ⟨rfl, nb_trans (nb_trans hb0 hb1) hb2⟩
  · have C1 := Lib.hid (fun W => cut_any u W (by omega))
    have C2 := Lib.hid (fun W => cut_any v W (by omega))
    have hs2 : 18 < (tn u).size ∨ 18 < (tn v).size := by omega
    have S := Lib.hid (fun W => both_long (tn u) (tn v) hs2 (by omega) (by omega) W)
    clear hs hs2
    obtain ⟨x, hx⟩ : ∃ x, x = tn u := ⟨_, rfl⟩
    obtain ⟨y, hy⟩ : ∃ y, y = tn v := ⟨_, rfl⟩
    rw [← hx] at C1 S HC hu ⊢
    rw [← hy] at C2 S HC hv ⊢
    clear hx hy
    go_enter Tryz.func94, Tryz.ntmps94
    go_upto_region 6 with (first
      | (go_at_call 139; refine (HC.out _).mono ?_; rintro e w0 ⟨rfl, hb0⟩)
      | (go_at_call 130; refine (S.out _).mono ?_; rintro e w1 ⟨rfl, hb1⟩))
    have HB := Lib.hid (nb_trans hb0 hb1)
    clear hb0 hb1
    go_upto_region 7 with (first
      | (go_at_call 132; refine (C1.out _).mono ?_; rintro e w2 ⟨v2, a, rfl, hp, hv, hl, hb⟩; have HP2 := Lib.hid hp; have HV2 := Lib.hid hv; have HL2 := Lib.hid hl; have HB2 := Lib.hid hb; have how := hp.own.alloc (.cells #[.int .u64 0] 166); have HOW := Lib.hid how; clear hp hv hl hb how)
      | (at_builtin; refine wpList_append_own _ rfl _ _ 171 rfl w1.heap.size 166 i0 (.int .u64 0) 1 8 Tryz.underlying171 hi0 hz0 hz1 hz2 rfl (by decide) _ _ _ rfl HOW.out ⟨w2.heap.size, 0, none⟩ 1 1 [.int .u64 0] rfl rfl (cell_one_new _ _ _) (by intro u hu; simp at hu; subst hu; rfl) (by have := HL2.out; unfold maxLen; omega) (by have := HL2.out; omega) (by have := HB2.out.size; simp; omega) ?_; intro v3 w3 hown3 hgrow3 hnil3; have HO3 := Lib.hid hown3; have HG3 := Lib.hid (nb_grown (HB2.out.trans (nb_alloc _ _ |>.mono HB2.out.size)) HOW.out (Nat.le_refl _) hgrow3); clear hown3 hgrow3 hnil3))
    have HO3' := HO3.out
    rw [U_snoc] at HO3'
    obtain ⟨ga, ca, hv3, q1, q2, q3, q4⟩ := own_OB HO3' (by omega)
    subst hv3
    have HQ := Lib.hid (And.intro q1 (And.intro q2 (And.intro q3 q4)))
    clear q1 q2 q3 q4 HO3' HOW HO3
    obtain ⟨n, hn⟩ : ∃ n, n = a.length := ⟨_, rfl⟩
    rw [← hn]
    rw [← hn] at HQ
    have hn1 : n ≤ 11111111112 := by have := HL2.out; omega
    have HN := Lib.hid hn
    clear hn
    go_upto_region 8 with (first
      | (go_at_call 132; have _t := HP4; refine (C2.out _).mono ?_; rintro e w5 ⟨v5, b5, rfl, hp, hv, hl, hb⟩; have HP5 := Lib.hid hp; have HV5 := Lib.hid hv; have HB5 := Lib.hid hb
         have hlen5 : b5.length = b.length := (by rw [val_inj hp.dig HP4.out.dig hp.top HP4.out.top (hv.trans HV4.out.symm)])
         obtain ⟨A5, c5, hv5, _, _, hr5⟩ := own_rd hp.own
         subst hv5
         rw [hlen5]
         clear hp hv hl hb hr5 hlen5
         have hlab : b.length ≤ n := (by rw [HN.out]; exact cut_len HP2.out.dig HP4.out.dig HP4.out.top HV2.out HV4.out hvu)
         obtain ⟨k, hk⟩ : ∃ k : Nat, n = b.length + k := ⟨n - b.length, (by omega)⟩
         subst hk)
      | (at_builtin
         obtain ⟨v6, w6, hr6, ho6, hg6, -⟩ := run_append_own_zeros (P := Tryz.prog) w5 w3.heap.size 171 3 171 166 i0 (.int .u64 0) .i64 Tryz.underlying171 Tryz.underlying3 hi0 hz0 hz1 hz2 rfl rfl v4 b.length (U b) (own_nb HP4.out.own HB5.out) k (by omega) (Nat.le_trans HB4.out.size HB5.out.size)
         rw [show ((k : Nat) : Int) = (b.length : Int) + (k : Int) - (b.length : Int) by omega] at hr6
         refine Lib.wpList_append_run _ rfl _ _ _ _ rfl _ _ rfl rfl v6 w6 hr6 ?_
         have ho6' := ho6
         rw [U_zeros] at ho6'
         obtain ⟨A6, c6, hv6, _, _, hrd6⟩ := own_rd ho6'
         have hb6 : Below w3.heap.size w3 w6 := (nb_grown (HB4.out.trans (HB5.out.mono HB4.out.size)) (own_nb HP4.out.own HB5.out) (Nat.le_refl _) hg6)
         subst hv6
         have H6 := Lib.hid (And.intro ho6' (And.intro hrd6 hb6))
         clear hr6 ho6 hg6 ho6' hrd6 hb6)
      | (go_at_call 140
         refine (take_any ga (b.length + k + 1) ca (b.length + k) c6 0 A6 1 (a ++ [0]) (b ++ List.replicate k 0) w6 (by have h1 := HN.out; rw [List.length_append, List.length_singleton]; omega) (HQ.out.2.2.2.of_block (H6.out.2.2.block ga HQ.out.2.2.2.lt)) H6.out.2.1 (own_blocks H6.out.1 HQ.out.2.2.2.lt) (by omega) (by omega) (HP2.out.dig.append (fun d hd => by rw [List.mem_singleton.1 hd]; decide)) (HP4.out.dig.append (Dig.zeros k)) (by decide) (by decide)).mono ?_
         rintro e w7 ⟨bb, o, rfl, hob7, hol7, hdo7, hfar7, hval7, hkp7⟩
         have hol8 : o.length = b.length + k + 1 := (by have h1 := HN.out; rw [hol7, List.length_append, List.length_singleton]; omega)
         have hv8 : val o = ((u - v : Nat) : Int) := take_diff (m := b.length + k) (by rw [val_snoc, Int.mul_zero, Int.add_zero]; exact HV2.out) (by rw [val_zeros_end]; exact HV4.out) hvu hdo7 hol8 hval7
         have H7 := Lib.hid (And.intro hob7 (And.intro hol8 (And.intro hdo7 hv8)))
         have HK7 := Lib.hid hkp7
         clear hob7 hol7 hdo7 hfar7 hval7 hol8 hv8 hkp7)
      | (go_at_call 132; refine (C2.out _).mono ?_; rintro e w4 ⟨v4, b, rfl, hp, hv, hl, hb⟩; have HP4 := Lib.hid hp; have HV4 := Lib.hid hv; have HL4 := Lib.hid hl; have HB4 := Lib.hid hb; clear hp hv hl hb))
    go_wp2_with (first
      | (go_at_call 138; refine (trim_any (some ⟨ga, 0, none⟩) (b.length + k + 1) ca o _ (H7.out.1.rd H7.out.2.1) HQ.out.1 (by omega)).mono ?_; rintro e w8 ⟨t, ht, rfl, rfl⟩; have HT := Lib.hid ht; clear ht)
      | (go_at_call 135; refine (text_any (some ⟨ga, 0, none⟩) t ca (o.take t) _ ((H7.out.1.rd H7.out.2.1).take (by have := HT.out.1; rw [H7.out.2.1] at this; exact this)) (by have := HT.out.1; have := H7.out.2.1; omega) (H7.out.2.2.1.take t) (trims_parts HT.out).1).mono ?_; rintro e w9 ⟨rfl, hb9⟩))
    go_ret2
    refine ⟨?_, ?_⟩
    · rw [(trims_parts HT.out).2.1, H7.out.2.2.2]
      rfl
    · have hb7 : Below w1.heap.size w1 w6 := HG3.out.trans (H6.out.2.2.mono HG3.out.size)
      exact nb_trans HB.out ((hb7.trans (HK7.out.below (B := w1.heap.size) hb7.size (fun i hi => by rw [hi]; exact HQ.out.2.2.1))).trans (hb9.mono (Nat.le_trans hb7.size HK7.out.size)))
end Go.Proofs.YtmfkpmepgbjmkaaGreatDoor
