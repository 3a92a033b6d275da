/-
  WALKS: decimal.DivMod.
-/
import Derived.Test.YtmfkpmepgbjmkaaGreatDoorDarith
set_option linter.unusedVariables false
set_option linter.unusedSimpArgs false
namespace Go.Proofs.YtmfkpmepgbjmkaaGreatDoor
open Go.RowKit

theorem tn_ne_zero {v : Nat} (h : 0 < v) : ((tn v).toList == [48]) = false := by rw [tn_zero, decide_eq_false (by omega)]
theorem val_one {b : List Int} (h : b.length = 1) : val b = b.getD 0 0 := by
  match b, h with
  | [x], _ => simp [Go.Proofs.YtmfkpmepgbjmkaaGreatDoor.val]
theorem nat_div {u v : Nat} {d r : Int} (hv : 0 < v) (h : (u : Int) = (v : Int) * d + r) (r0 : 0 ≤ r) (r1 : r < (v : Int)) : d.toNat = u / v ∧ r.toNat = u % v := by
  have h1 : (u : Int) / (v : Int) = d := by
    rw [h, Int.add_comm, Int.add_mul_ediv_left _ _ (by omega), Int.ediv_eq_zero_of_lt r0 r1, Int.zero_add]
  have h2 : (u : Int) % (v : Int) = r := by
    rw [h, Int.add_comm, Int.add_mul_emod_self_left, Int.emod_eq_of_lt r0 r1]
  rw [← Int.natCast_ediv] at h1
  rw [← Int.natCast_emod] at h2
  exact ⟨by rw [← h1]; rfl, by rw [← h2]; rfl⟩

def DivModPost (u v : Nat) (w : World) (e : Ending) (w' : World) : Prop :=
  e = .returned (.tuple #[.string (tn (u / v)), .string (tn (u % v)), .int .i64 0]) ∧ Below w.heap.size w w'

set_option maxRecDepth 100000 in
set_option maxHeartbeats 1600000 in
theorem ddivmod_short (u v : Nat) (hu : (tn u).size ≤ 18) (hv : (tn v).size ≤ 18) (hv0 : 0 < v) (w : World) (hG : GOk w) :
    Calls Tryz.prog 92 #[.string (tn u), .string (tn v)] w (DivModPost u v w) := by
  have h1 := short_of hu
  have h2 := short_of hv
  have S := Lib.hid (fun W => both_short u v hu hv W)
  have h3 : u / v ≤ u := Nat.div_le_self _ _
  have h4 : u % v < v := Nat.mod_lt _ hv0
  have hD1 := Lib.hid (fun W (hg : GOk W) => dec_of (u / v) (by omega) W hg)
  have hD2 := Lib.hid (fun W (hg : GOk W) => dec_of (u % v) (by omega) W hg)
  have hnz := tn_ne_zero hv0
  obtain ⟨X, hX⟩ : ∃ X : Int, X = (u : Int) := ⟨_, rfl⟩
  obtain ⟨Y, hY⟩ : ∃ Y : Int, Y = (v : Int) := ⟨_, rfl⟩
  obtain ⟨q, hq⟩ : ∃ q, q = u / v := ⟨_, rfl⟩
  obtain ⟨r, hr⟩ : ∃ r, r = u % v := ⟨_, rfl⟩
  rw [← hq] at h3 hD1
  rw [← hr] at h4 hD2
  have e1 : Hid (X / Y = (q : Int)) := Lib.hid (by rw [hX, hY, hq, Int.natCast_ediv])
  have e3 : Hid (X.tdiv Y = (q : Int)) := Lib.hid (by rw [Int.tdiv_eq_ediv_of_nonneg (by omega)]; exact e1.out)
  have e4 : Hid (IntKind.u64.wrap (X.tdiv Y) = (q : Int)) := Lib.hid (by rw [e3.out, IntKind.wrap_u64]; omega)
  have f1 : Hid (X % Y = (r : Int)) := Lib.hid (by rw [hX, hY, hr, Int.natCast_emod])
  have f3 : Hid (X.tmod Y = (r : Int)) := Lib.hid (by rw [Int.tmod_eq_emod_of_nonneg (by omega)]; exact f1.out)
  have f4 : Hid (IntKind.u64.wrap (X.tmod Y) = (r : Int)) := Lib.hid (by rw [f3.out, IntKind.wrap_u64]; omega)
  have HQ := Lib.hid (And.intro hq hr)
  have b1 : X < 1000000000000000000 := by omega
  have b2 : Y < 1000000000000000000 := by omega
  have b3 : 0 < Y := by omega
  have b4 : 0 ≤ X := by omega
  rw [← hX, ← hY] at S
  clear hX hY hv0 h1 h2 h3 h4 hq hr
  obtain ⟨x, hx⟩ : ∃ x, x = tn u := ⟨_, rfl⟩
  obtain ⟨y, hy⟩ : ∃ y, y = tn v := ⟨_, rfl⟩
  rw [← hx] at S hu ⊢
  rw [← hy] at S hv hnz ⊢
  clear hx hy
  go_enter Tryz.func92, Tryz.ntmps92
  go_wp2_with (go_at_call 130; refine (S.out _).mono ?_; rintro e w1 ⟨rfl, hb1⟩)
  have HG := Lib.hid (hG.below hb1)
  go_region_with (first
    | (go_at_call 131; first | rw [e4.out] | rw [e3.out] | rw [e1.out]
       refine (hD1.out _ (by first | exact HG.out.drew | exact HG.out.drew.below (by assumption) | exact HG.out | exact HG.out.below (by assumption) | exact HG.out.drew.drew.below (by assumption))).mono ?_; rintro e w2 ⟨rfl, hb2⟩)
    | (go_at_call 131; first | rw [f4.out] | rw [f3.out] | rw [f1.out]
       refine (hD2.out _ (by first | exact HG.out.drew | exact HG.out.drew.below (by assumption) | exact HG.out | exact HG.out.below (by assumption) | exact HG.out.drew.drew.below (by assumption))).mono ?_; rintro e w3 ⟨rfl, hb3⟩))
  all_goals go_wp2_with fail
  all_goals go_ret3
  all_goals
    refine ⟨?_, ?_⟩
    · rw [← HQ.out.1, ← HQ.out.2]
      rfl
    · first
        | exact nb_trans hb1 (nb_trans (nb_drew _) (nb_trans hb2 hb3))
        | exact nb_trans hb1 (nb_trans (nb_drew _) (nb_trans hb3 hb2))
        | exact nb_trans hb1 (nb_trans (nb_drew _) (nb_trans hb2 (nb_trans hb3 (nb_drew _))))

/-- What the long cases of DivMod know of the two numbers. -/
structure DmSt (u v : Nat) (w0 w1 w2 : World) (A1 A2 : Option Addr) (c1 c2 : Nat) (a b : List Int) : Prop where
  va : val a = (u : Int)
  vb : val b = (v : Int)
  ra : Rd .u64 w2 A1 a.length a
  rb : Rd .u64 w2 A2 b.length b
  da : Dig a
  db : Dig b
  ta : Top a
  tb : Top b
  la : a.length ≤ 11111111112
  lb : b.length ≤ 11111111112
  nb : Below w0.heap.size w0 w2

set_option maxRecDepth 100000 in
set_option maxHeartbeats 1600000 in
theorem ddivmod_long (u v : Nat) (hu : Zn u) (hv : Zn v) (hs : 18 < (tn u).size ∨ 18 < (tn v).size) (hv0 : 0 < v) (w : World) (hG : GOk w) :
    Calls Tryz.prog 92 #[.string (tn u), .string (tn v)] w (DivModPost u v w) := by
  unfold Zn at hu hv
  have C1 := Lib.hid (fun W => cut_any u W (by omega))
  have C2 := Lib.hid (fun W => cut_any v W (by omega))
  have S := Lib.hid (fun W => both_long (tn u) (tn v) hs (by omega) (by omega) W)
  have hnz := tn_ne_zero hv0
  clear hs
  obtain ⟨x, hx⟩ : ∃ x, x = tn u := ⟨_, rfl⟩
  obtain ⟨y, hy⟩ : ∃ y, y = tn v := ⟨_, rfl⟩
  rw [← hx] at S C1 hu ⊢
  rw [← hy] at S C2 hv hnz ⊢
  have HX := Lib.hid hx
  clear hx hy
  go_enter Tryz.func92, Tryz.ntmps92
  go_upto_region 7 with (first
    | (go_at_call 130; refine (S.out _).mono ?_; rintro e w1 ⟨rfl, hb1⟩)
    | (go_at_call 132; have _t := HP2; refine (C2.out _).mono ?_; rintro e w3 ⟨v3, b, rfl, hp, hv, hl, hb⟩
       obtain ⟨A1, c1, hv1, _, _, hr1⟩ := own_rd HP2.out.own
       obtain ⟨A2, c2, hv2, _, _, hr2⟩ := own_rd hp.own
       have hst : DmSt u v w1 w2 w3 A1 A2 c1 c2 a b := ⟨HV2.out, hv, hr1.nb hb, hr2, HP2.out.dig, hp.dig, HP2.out.top, hp.top, (by have := HL2.out; omega), (by omega), nb_trans HB2.out hb⟩
       have HST := Lib.hid hst
       subst hv1 hv2
       clear hp hv hl hb hr1 hr2 hst)
    | (go_at_call 132; refine (C1.out _).mono ?_; rintro e w2 ⟨v2, a, rfl, hp, hv, hl, hb⟩; have HP2 := Lib.hid hp; have HV2 := Lib.hid hv; have HL2 := Lib.hid hl; have HB2 := Lib.hid hb; clear hp hv hl hb))
  obtain ⟨n, hn⟩ : ∃ n, n = a.length := ⟨_, rfl⟩
  obtain ⟨m, hm⟩ : ∃ m, m = b.length := ⟨_, rfl⟩
  have hra : Hid (Rd .u64 w3 A1 n a) := by rw [hn]; exact HST.out.ra
  have hrb : Hid (Rd .u64 w3 A2 m b) := by rw [hm]; exact HST.out.rb
  have hna : n ≤ 11111111112 := by rw [hn]; exact HST.out.la
  have hma : m ≤ 11111111112 := by rw [hm]; exact HST.out.lb
  rw [← hn, ← hm]
  have HN := Lib.hid (And.intro hn hm)
  have HB : Hid (Below w.heap.size w w3) := nb_trans hb1 HST.out.nb
  have HG := Lib.hid (hG.below HB.out)
  clear hn hm hb1 hG
  have hcm : Hid (cmp (val a) (val b) = cmp u v) := Lib.hid (by rw [HST.out.va, HST.out.vb])
  have CM := Lib.hid (fun W (h : Below w3.heap.size w3 W) => compare_any A1 A2 n m c1 c2 a b W (hra.out.nb h) (hrb.out.nb h) (by omega) (by omega) HST.out.da HST.out.db HST.out.ta HST.out.tb)
  rw [hcm.out] at CM
  by_cases hlt : u < v
  · have hc : cmp u v < 0 := by rw [cmp_lt (by omega)]; decide
    go_wp2_with (go_at_call 133; refine (CM.out _ (nb_refl _)).mono ?_; rintro e w4 ⟨rfl, hb4⟩)
    go_ret3
    refine ⟨?_, nb_trans HB.out hb4⟩
    rw [Nat.div_eq_of_lt hlt, Nat.mod_eq_of_lt hlt, ← HX.out]
    exact congrArg (fun z => Ending.returned (Value.tuple #[Value.string z, Value.string x, Value.int .i64 0])) (by decide +kernel)
  · have hc : ¬ cmp u v < 0 := by
      rcases Nat.lt_or_ge v u with h' | h'
      · rw [cmp_gt (by omega)]; decide
      · rw [cmp_eq (by omega)]; decide
    have hvb := HST.out.vb
    have hm0 : 0 < m := by
      rcases Nat.eq_zero_or_pos m with h | h
      · have : b = [] := List.eq_nil_of_length_eq_zero (by rw [← HN.out.2]; exact h)
        rw [this] at hvb
        have : (0 : Int) = (v : Int) := hvb
        omega
      · exact h
    have HV := Lib.hid hvb
    clear hvb
    by_cases hm1 : m = 1
    · subst hm1
      obtain ⟨g2, hA2, cb⟩ := hrb.out.at_ (i := 0) hm0
      obtain ⟨d, hd⟩ : ∃ d, d = b.getD 0 0 := ⟨_, rfl⟩
      obtain ⟨d0, d1⟩ := HST.out.db.at_ 0
      rw [← hd] at cb d0 d1
      have hdv : Hid (d = (v : Int)) := by rw [hd, ← val_one (by rw [← HN.out.2])]; exact HV.out
      have d2 : 0 < d := by rw [hdv.out]; omega
      subst hA2
      clear hd
      go_wp2_with (first
        | (go_at_call 133; refine (CM.out _ (nb_refl _)).mono ?_; rintro e w4 ⟨rfl, hb4⟩; have cb4 := cellB hb4 cb)
        | (go_at_call 134; refine (smallDiv_any A1 n c1 d a _ (hra.out.nb hb4) (by omega) HST.out.da d2 (by omega)).mono ?_
           rintro e w5 ⟨v5, q5, r5, rfl, hp5, hv5, hr0, hr1, hl5, hb5⟩
           obtain ⟨A5, c5, hw5, _, _, hr5⟩ := own_rd hp5.own
           subst hw5
           have H5 := Lib.hid (And.intro hp5 (And.intro hv5 (And.intro hl5 hr5)))
           clear hp5 hv5 hl5 hr5)
        | (go_at_call 135; refine (text_any A5 q5.length c5 q5 _ H5.out.2.2.2 (by have := H5.out.2.2.1; have := HN.out.1; omega) H5.out.1.dig H5.out.1.top).mono ?_; rintro e w6 ⟨rfl, hb6⟩
           have hrn : Hid (r5 = ((r5.toNat : Nat) : Int)) := Lib.hid (by omega))
        | (go_at_call 131; rw [hrn.out]; refine (dec_of r5.toNat (by omega) _ ((HG.out.below hb4).below (nb_trans hb5 hb6))).mono ?_; rintro e w7 ⟨rfl, hb7⟩))
      go_ret3
      obtain ⟨z1, z2⟩ := nat_div (u := u) (v := v) (d := val q5) (r := r5) hv0 (by rw [← hdv.out, ← HST.out.va]; exact H5.out.2.1) hr0 (by rw [← hdv.out]; exact hr1)
      refine ⟨?_, nb_trans HB.out (nb_trans hb4 (nb_trans hb5 (nb_trans hb6 hb7)))⟩
      rw [← z1, ← z2]
      rfl
    · have hm1' : ¬ (m : Int) = 1 := by omega
      have hm2 : (m : Int) ≠ 1 := by omega
      have hmn : m ≤ n := by
        rw [HN.out.1, HN.out.2]
        exact cut_len HST.out.da HST.out.db HST.out.tb HST.out.va HST.out.vb (by omega)
      go_wp2_with (first
        | (go_at_call 133; refine (CM.out _ (nb_refl _)).mono ?_; rintro e w4 ⟨rfl, hb4⟩)
        | (go_at_call 136; refine (divide_any A1 A2 n c1 m c2 a b _ (hra.out.nb hb4) (hrb.out.nb hb4) (by omega) (by omega) hmn HST.out.da HST.out.db HST.out.ta HST.out.tb).mono ?_
           rintro e w5 ⟨v5, v6, q5, r5, rfl, hp5, hp6, hv5, hv6, hl5, hl6, hb5⟩
           obtain ⟨A5, c5, hw5, _, _, hr5⟩ := own_rd hp5.own
           obtain ⟨A6, c6, hw6, _, _, hr6⟩ := own_rd hp6.own
           subst hw5 hw6
           have H5 := Lib.hid (And.intro hp5 (And.intro hp6 (And.intro hv5 (And.intro hv6 (And.intro hl5 hl6)))))
           have HR := Lib.hid (And.intro hr5 hr6)
           clear hp5 hp6 hv5 hv6 hl5 hl6 hr5 hr6)
        | (go_at_call 135; have _t := hb6; refine (text_any A6 r5.length c6 r5 _ (HR.out.2.nb hb6) (by have := H5.out.2.2.2.2.2; have := HN.out.1; omega) H5.out.2.1.dig H5.out.2.1.top).mono ?_; rintro e w7 ⟨rfl, hb7⟩)
        | (go_at_call 135; refine (text_any A5 q5.length c5 q5 _ HR.out.1 (by have := H5.out.2.2.2.2.1; have := HN.out.1; omega) H5.out.1.dig H5.out.1.top).mono ?_; rintro e w6 ⟨rfl, hb6⟩))
      go_ret3
      obtain ⟨z1, z2⟩ := nat_div (u := u) (v := v) (d := val q5) (r := val r5) hv0 (by rw [← HST.out.va, ← HST.out.vb]; exact H5.out.2.2.1) (val_nonneg H5.out.2.1.dig) (by rw [← HST.out.vb]; exact H5.out.2.2.2.1)
      refine ⟨?_, nb_trans HB.out (nb_trans hb4 (nb_trans hb5 (nb_trans hb6 hb7)))⟩
      rw [← z1, ← z2]
      rfl

theorem ddivmod_any (u v : Nat) (hu : Zn u) (hv : Zn v) (hv0 : 0 < v) (w : World) (hG : GOk w) :
    Calls Tryz.prog 92 #[.string (tn u), .string (tn v)] w (DivModPost u v w) := by
  by_cases hs : (tn u).size ≤ 18 ∧ (tn v).size ≤ 18
  · exact ddivmod_short u v hs.1 hs.2 hv0 w hG
  · exact ddivmod_long u v hu hv (by omega) hv0 w hG
end Go.Proofs.YtmfkpmepgbjmkaaGreatDoor
