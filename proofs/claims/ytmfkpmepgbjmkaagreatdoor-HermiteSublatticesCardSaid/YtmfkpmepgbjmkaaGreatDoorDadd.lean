/-
  WALKS: decimal.Add.
-/
import Derived.Test.YtmfkpmepgbjmkaaGreatDoorDdiv
set_option linter.unusedVariables false
set_option linter.unusedSimpArgs false
namespace Go.Proofs.YtmfkpmepgbjmkaaGreatDoor
open Go.RowKit

set_option maxRecDepth 100000 in
set_option maxHeartbeats 1600000 in
theorem dadd_short (u v : Nat) (hu : (tn u).size ≤ 18) (hv : (tn v).size ≤ 18) (w : World) (hG : GOk w) :
    Calls Tryz.prog 93 #[.string (tn u), .string (tn v)] w fun e w' => e = .returned (.string (tn (u + v))) ∧ Below w.heap.size w w' := by
  have h1 := short_of hu
  have h2 := short_of hv
  have S := Lib.hid (fun W => both_short u v hu hv W)
  have hD := Lib.hid (fun W (hg : GOk W) => dec_of (u + v) (by omega) W hg)
  obtain ⟨X, hX⟩ : ∃ X : Int, X = (u : Int) := ⟨_, rfl⟩
  obtain ⟨Y, hY⟩ : ∃ Y : Int, Y = (v : Int) := ⟨_, rfl⟩
  have e1 : Hid (X + Y = ((u + v : Nat) : Int)) := Lib.hid (by omega)
  have b1 : X < 1000000000000000000 := by omega
  have b2 : Y < 1000000000000000000 := by omega
  have b3 : 0 ≤ Y := by omega
  have b4 : 0 ≤ X := by omega
  rw [← hX, ← hY] at S
  clear hX hY h1 h2
  obtain ⟨x, hx⟩ : ∃ x, x = tn u := ⟨_, rfl⟩
  obtain ⟨y, hy⟩ : ∃ y, y = tn v := ⟨_, rfl⟩
  rw [← hx] at S hu ⊢
  rw [← hy] at S hv ⊢
  clear hx hy
  go_enter Tryz.func93, Tryz.ntmps93
  go_wp2_with (first
    | (go_at_call 130; refine (S.out _).mono ?_; rintro e w1 ⟨rfl, hb1⟩)
    | (go_at_call 131; rw [e1.out]; refine (hD.out _ (hG.below hb1)).mono ?_; rintro e w2 ⟨rfl, hb2⟩))
  go_ret
  exact ⟨rfl, nb_trans hb1 hb2⟩

/-- The two rows of a sum, the longer one first. -/
structure AdSt (t : Nat) (w1 w : World) (A A' : Option Addr) (n c m c' : Nat) (P Q : List Int) : Prop where
  o1 : w.ownsRow w1.heap.size 166 1 (.slice A n c) n (U P)
  o2 : w.ownsRow w1.heap.size 166 1 (.slice A' m c') m (U Q)
  ne : ∀ g, A = some ⟨g, 0, none⟩ → A' ≠ some ⟨g, 0, none⟩
  d1 : Dig P
  d2 : Dig Q
  l1 : P.length = n
  l2 : Q.length = m
  sum : val P + val Q = (t : Int)
  nb : Below w1.heap.size w1 w
theorem own_shape {base n c : Nat} {w : World} {A : Option Addr} {xs : List Value} {T : TypeId} (h : w.ownsRow base T 1 (.slice A n c) n xs) : A = none ∨ ∃ g, A = some ⟨g, 0, none⟩ ∧ base ≤ g ∧ g < w.heap.size := by
  rcases h.2 with ⟨h1, _⟩ | ⟨g, cap, cur, h1, h2, h3, _⟩
  · injection h1 with e; exact .inl e
  · injection h1 with e; exact .inr ⟨g, e, h2, (Array.getElem?_eq_some_iff.1 h3).1⟩
theorem back_sum {t : Nat} {P o es : List Int} {c : Int} {m : Nat} (hs : val P + val es = (t : Int)) (hP : Dig P) (hE : Dig es) (hl : P.length = m) (he : es.length = m) (ho : Dig o) (hol : o.length = m + 1) (c0 : 0 ≤ c) (c1 : c ≤ 1)
    (hv : val o + B9 ^ (0 + (m + 1)) * c = val (P ++ [0]) + B9 ^ 0 * val es) : val o = (t : Int) := by
  rw [val_snoc, Int.mul_zero, Int.add_zero, Int.pow_zero, Int.one_mul, hs, Nat.zero_add] at hv
  have h1 := val_lt hP
  have h2 := val_lt hE
  rw [hl] at h1
  rw [he] at h2
  have h3 : B9 ^ (m + 1) = B9 ^ m * 1000000000 := Int.pow_succ _ _
  have h4 := pow_pos9 m
  have h5 := val_nonneg ho
  rcases Int.lt_or_le c 1 with h | h
  · have : c = 0 := by omega
    subst this
    rw [Int.mul_zero] at hv
    omega
  · have : c = 1 := by omega
    subst this
    omega

/-- Behind the append of a piece. -/
structure Ad2 (w1 w : World) (ga ca n : Nat) (A' : Option Addr) (m c' : Nat) (P Q : List Int) : Prop where
  cap : n + 1 ≤ ca
  base : w1.heap.size ≤ ga
  ob : OB w ga ca (P ++ [0])
  o2 : w.ownsRow w1.heap.size 166 1 (.slice A' m c') m (U Q)
  ne : ∀ g, A' = some ⟨g, 0, none⟩ → g ≠ ga
  nb : Below w1.heap.size w1 w
theorem add_grow {t n c m c' : Nat} {w1 w3 w4 : World} {A A' : Option Addr} {P Q : List Int} {v4 : Value} {o : Obj} (h : AdSt t w1 w3 A A' n c m c' P Q)
    (hown : w4.ownsRow w1.heap.size 166 1 v4 (n + 1) (U P ++ [Value.int .u64 0])) (hg : (w3.alloc o).grownBy w4 (Value.slice A n c).ownBlock)
    (hat : v4.ownBlock = (Value.slice A n c).ownBlock ∨ v4.ownBlock = some (w3.alloc o).heap.size) : ∃ ga ca, v4 = .slice (some ⟨ga, 0, none⟩) (n + 1) ca ∧ Ad2 w1 w4 ga ca n A' m c' P Q := by
  rw [U_snoc] at hown
  obtain ⟨ga, ca, rfl, q1, q2, q3, q4⟩ := own_OB hown (by omega)
  have s2 := own_shape h.o2
  have hsz : (w3.alloc o).heap.size = w3.heap.size + 1 := by simp
  have hk : (Value.slice A' m c').ownBlock = none ∨ (Value.slice A' m c').ownBlock ≠ (Value.slice A n c).ownBlock := by
    rcases s2 with rfl | ⟨g, rfl, _, _⟩
    · exact .inl rfl
    · right
      intro e
      rcases own_shape h.o1 with rfl | ⟨g', rfl, _, _⟩
      · cases e
      · injection e with e
        have e' : g = g' := e
        subst e'
        exact h.ne g rfl rfl
  refine ⟨ga, ca, rfl, q1, q3, q4, (h.o2.alloc o).kept hg hk, ?_, nb_grown (h.nb.trans (nb_alloc _ _ |>.mono h.nb.size)) (h.o1.alloc o) (Nat.le_refl _) hg⟩
  intro g hA e
  subst e
  rcases s2 with rfl | ⟨g', rfl, _, hlt⟩
  · cases hA
  · injection hA with e
    injection e with e
    subst e
    rcases hat with h1 | h1
    · rcases hk with h2 | h2
      · cases h2
      · exact h2 h1
    · injection h1 with h1
      have h1' : g' = (w3.alloc o).heap.size := h1
      omega
theorem add_zeros {n m c' k ga ca : Nat} {w1 w4 w6 : World} {A' : Option Addr} {P Q : List Int} {v6 : Value} (h : Ad2 w1 w4 ga ca n A' m c' P Q)
    (hown : w6.ownsRow w1.heap.size 166 1 v6 (m + k) (U Q ++ List.replicate k (Value.int .u64 0))) (hg : w4.grownBy w6 (Value.slice A' m c').ownBlock)
    (hat : v6.ownBlock = (Value.slice A' m c').ownBlock ∨ v6.ownBlock = some w4.heap.size) :
    ∃ A6 c6, v6 = .slice A6 (m + k) c6 ∧ Rd .u64 w6 A6 (m + k) (Q ++ List.replicate k 0) ∧ OB w6 ga ca (P ++ [0]) ∧ (∀ g, A6 = some ⟨g, 0, none⟩ → g ≠ ga) ∧ Below w1.heap.size w1 w6 := by
  rw [U_zeros] at hown
  obtain ⟨A6, c6, rfl, _, _, hr⟩ := own_rd hown
  have hlt := h.ob.lt
  have hne : some ga ≠ (Value.slice A' m c').ownBlock := by
    intro e
    rcases own_shape h.o2 with rfl | ⟨g, rfl, _, _⟩
    · cases e
    · injection e with e
      exact h.ne g rfl e.symm
  refine ⟨A6, c6, rfl, hr, h.ob.of_block (hg.block ga hlt hne), ?_, nb_grown h.nb h.o2 (Nat.le_refl _) hg⟩
  intro g hA e
  subst e hA
  rcases hat with h1 | h1
  · exact hne h1
  · injection h1 with h1
    have h1' : g = w4.heap.size := h1
    omega

set_option maxRecDepth 100000 in
set_option maxHeartbeats 3200000 in
theorem dadd_long (u v : Nat) (hu : Zn u) (hv : Zn v) (hs : 18 < (tn u).size ∨ 18 < (tn v).size) (w : World) (hG : GOk w) :
    Calls Tryz.prog 93 #[.string (tn u), .string (tn v)] w fun e w' => e = .returned (.string (tn (u + v))) ∧ Below w.heap.size w w' := by
  unfold Zn at hu hv
  obtain ⟨i0, hi0, hz0, hz1, hz2⟩ := info_parts Tryz.infoU
  have C1 := Lib.hid (fun W => cut_any u W (by omega))
  have C2 := Lib.hid (fun W => cut_any v W (by omega))
  have S := Lib.hid (fun W => both_long (tn u) (tn v) hs (by omega) (by omega) W)
  clear hs
  obtain ⟨x, hx⟩ : ∃ x, x = tn u := ⟨_, rfl⟩
  obtain ⟨y, hy⟩ : ∃ y, y = tn v := ⟨_, rfl⟩
  rw [← hx] at S C1 hu ⊢
  rw [← hy] at S C2 hv ⊢
  clear hx hy
  go_enter Tryz.func93, Tryz.ntmps93
  go_upto_region 5 with (first
    | (go_at_call 130; refine (S.out _).mono ?_; rintro e w1 ⟨rfl, hb1⟩)
    | (go_at_call 132; have _t := HP2; refine (C2.out _).mono ?_; rintro e w3 ⟨v3, b, rfl, hp, hv, hl, hb⟩
       obtain ⟨A1, c1, hv1, _, _, hr1⟩ := own_rd HP2.out.own
       obtain ⟨A2, c2, hv2, _, _, hr2⟩ := own_rd hp.own
       subst hv1 hv2
       have HP3 := Lib.hid hp
       have HV3 := Lib.hid hv
       have HB3 := Lib.hid hb
       have hlb : b.length ≤ 11111111112 := (by omega)
       have hla : a.length ≤ 11111111112 := (by have := HL2.out; omega)
       clear hp hv hl hb hr1 hr2)
    | (go_at_call 132; refine (C1.out _).mono ?_; rintro e w2 ⟨v2, a, rfl, hp, hv, hl, hb⟩; have HP2 := Lib.hid hp; have HV2 := Lib.hid hv; have HL2 := Lib.hid hl; have HB2 := Lib.hid hb; clear hp hv hl hb))
  have hne : Hid (∀ g, A1 = some ⟨g, 0, none⟩ → A2 ≠ some ⟨g, 0, none⟩) := Lib.hid (fun g h1 h2 => by
    have q1 := HP2.out.own.lt g (by rw [h1]; rfl)
    have q2 := HP3.out.own.lt g (by rw [h2]; rfl)
    omega)
  obtain ⟨n, hn⟩ : ∃ n, n = a.length := ⟨_, rfl⟩
  obtain ⟨m, hm⟩ : ∃ m, m = b.length := ⟨_, rfl⟩
  rw [← hn, ← hm]
  rw [← hn] at hla
  rw [← hm] at hlb
  have s1 : Hid (AdSt (u + v) w1 w3 A1 A2 n c1 m c2 a b) := ⟨by rw [hn]; exact own_nb HP2.out.own HB3.out, by rw [hm]; exact (HP3.out.base HB2.out.size).own, hne.out, HP2.out.dig, HP3.out.dig, hn.symm, hm.symm, by rw [HV2.out, HV3.out]; omega, nb_trans HB2.out HB3.out⟩
  have s2 : Hid (AdSt (u + v) w1 w3 A2 A1 m c2 n c1 b a) := ⟨s1.out.o2, s1.out.o1, fun g h1 h2 => hne.out g h2 h1, s1.out.d2, s1.out.d1, s1.out.l2, s1.out.l1, by have := s1.out.sum; omega, s1.out.nb⟩
  clear hn hm HP2 HP3 HV2 HV3 HL2 HB2 HB3
  go_upto_if 30 with fail
  go_cut [8, 9] (fun s8 s9 wx => ∃ A A' n' c m' c' P Q, s8 = .slice A n' c ∧ s9 = .slice A' m' c' ∧ m' ≤ n' ∧ n' ≤ 11111111112 ∧ Hid (AdSt (u + v) w1 w3 A A' n' c m' c' P Q) ∧ wx = w3)
  case first =>
    rcases Nat.lt_or_ge n m with h | h
    · have h' : (n : Int) < (m : Int) := by omega
      go_wp2_with fail
      go_meet
      exact ⟨A2, A1, m, c2, n, c1, b, a, rfl, rfl, by omega, hlb, s2, rfl⟩
    · have h' : ¬ (n : Int) < (m : Int) := by omega
      go_wp2_with fail
      go_meet
      exact ⟨A1, A2, n, c1, m, c2, a, b, rfl, rfl, h, hla, s1, rfl⟩
  case rest =>
    obtain ⟨A, A', n', c, m', c', P, Q, rfl, rfl, hmn, hn', hst, hwx⟩ := hcut
    obtain ⟨k, hk⟩ : ∃ k : Nat, n' = m' + k := ⟨n' - m', by omega⟩
    have hwx' := hwx.symm
    clear hwx
    subst hk hwx'
    go_upto_region 8 with (at_builtin
                           refine wpList_append_own_at _ rfl _ _ 171 rfl w1.heap.size 166 i0 (.int .u64 0) 1 8 Tryz.underlying171 hi0 hz0 hz1 hz2 rfl (by decide) (.slice A (m' + k) c) (m' + k) (U P) rfl (hst.out.o1.alloc _) ⟨w3.heap.size, 0, none⟩ 1 1 [.int .u64 0] rfl rfl (cell_one_new _ _ _) (by intro u hu; simp at hu; subst hu; rfl) (by unfold maxLen; omega) (by omega) (by have := hst.out.nb.size; simp; omega) ?_
                           intro v4 w4 hown4 hgrow4 hnil4 hat4
                           obtain ⟨ga, ca, rfl, h4⟩ := add_grow hst.out hown4 hgrow4 hat4
                           have H4 := Lib.hid h4
                           clear hown4 hgrow4 hnil4 hat4 h4)
    go_upto_region 9 with (first
      | (at_builtin
         obtain ⟨v6, w6, hr6, ho6, hg6, hat6⟩ := run_append_own_zeros (P := Tryz.prog) w4 w1.heap.size 171 3 171 166 i0 (.int .u64 0) .i64 Tryz.underlying171 Tryz.underlying3 hi0 hz0 hz1 hz2 rfl rfl (.slice A' m' c') m' (U Q) H4.out.o2 k (by omega) H4.out.nb.size
         rw [show ((k : Nat) : Int) = (m' : Int) + (k : Int) - (m' : Int) by omega] at hr6
         refine Lib.wpList_append_run _ rfl _ _ _ _ rfl _ _ rfl rfl v6 w6 hr6 ?_
         obtain ⟨A6, c6, rfl, h6⟩ := add_zeros H4.out ho6 hg6 hat6
         have H6 := Lib.hid h6
         clear hr6 ho6 hg6 hat6 h6)
      | (go_at_call 137
         refine (back_any ga (m' + k + 1) ca (m' + k) c6 0 A6 (P ++ [0]) (Q ++ List.replicate k 0) w6 (by rw [List.length_append, List.length_singleton, hst.out.l1]) H6.out.2.1 H6.out.1 H6.out.2.2.1 (by omega) (by omega) (hst.out.d1.append (fun d hd => by rw [List.mem_singleton.1 hd]; decide)) (hst.out.d2.append (Dig.zeros k))).mono ?_
         rintro e w7 ⟨cc, o, rfl, hob7, hol7, hdo7, hfar7, hval7, hc0, hc1, hkp7⟩
         have hol8 : o.length = m' + k + 1 := (by rw [hol7, List.length_append, List.length_singleton, hst.out.l1])
         have hv8 : val o = ((u + v : Nat) : Int) := back_sum (m := m' + k) (P := P) (es := Q ++ List.replicate k 0) (by rw [val_zeros_end]; exact hst.out.sum) hst.out.d1 (hst.out.d2.append (Dig.zeros k)) hst.out.l1 (by rw [List.length_append, List.length_replicate, hst.out.l2]) hdo7 hol8 hc0 hc1 hval7
         have H7 := Lib.hid (And.intro hob7 (And.intro hol8 (And.intro hdo7 hv8)))
         have HK7 := Lib.hid hkp7
         clear hob7 hol7 hdo7 hfar7 hval7 hol8 hv8 hkp7 hc0 hc1))
    go_wp2_with (first
      | (go_at_call 138; refine (trim_any (some ⟨ga, 0, none⟩) (m' + k + 1) ca o _ (H7.out.1.rd H7.out.2.1) H4.out.cap (by omega)).mono ?_; rintro e w8 ⟨t, ht, rfl, rfl⟩; have HT := Lib.hid ht; clear ht)
      | (go_at_call 135; refine (text_any (some ⟨ga, 0, none⟩) t ca (o.take t) _ ((H7.out.1.rd H7.out.2.1).take (by have := HT.out.1; rw [H7.out.2.1] at this; exact this)) (by have := HT.out.1; have := H7.out.2.1; omega) (H7.out.2.2.1.take t) (trims_parts HT.out).1).mono ?_; rintro e w9 ⟨rfl, hb9⟩))
    go_ret
    refine ⟨?_, ?_⟩
    · rw [(trims_parts HT.out).2.1, H7.out.2.2.2]
      rfl
    · have hb7 := H6.out.2.2.2
      exact nb_trans hb1 ((hb7.trans (HK7.out.below (B := w1.heap.size) hb7.size (fun i hi => by rw [hi]; exact H4.out.base))).trans (hb9.mono (Nat.le_trans hb7.size HK7.out.size)))
theorem dadd_any (u v : Nat) (hu : Zn u) (hv : Zn v) (w : World) (hG : GOk w) :
    Calls Tryz.prog 93 #[.string (tn u), .string (tn v)] w fun e w' => e = .returned (.string (tn (u + v))) ∧ Below w.heap.size w w' := by
  by_cases hs : (tn u).size ≤ 18 ∧ (tn v).size ≤ 18
  · exact dadd_short u v hs.1 hs.2 w hG
  · exact dadd_long u v hu hv (by omega) w hG
end Go.Proofs.YtmfkpmepgbjmkaaGreatDoor
