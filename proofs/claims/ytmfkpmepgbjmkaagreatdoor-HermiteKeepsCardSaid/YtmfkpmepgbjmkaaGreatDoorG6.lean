/-
  WALKS: Transform and Unimodular of a wrong matrix; the reference's Check, first, IsForm, Pivots.
  WALKS: the reference's IsForm, Pivots.
  WALKS: the reference's EqualRows, Equal; the law's few, none.
-/
import Derived.Test.YtmfkpmepgbjmkaaGreatDoorIndex
set_option linter.unusedVariables false
set_option linter.unusedSimpArgs false
namespace Go.Proofs.YtmfkpmepgbjmkaaGreatDoor
open Go.RowKit

set_option maxRecDepth 100000 in
theorem unimodular_bad (w : World) (v : Value) (M : List (List Int)) (h : MatAt w v M) (h0 : chkM M ≠ 0) : Calls Tryz.prog 23 #[v] w fun e w' => e = .returned (.tuple #[.bool false, .int .i64 (chkM M)]) ∧ Below w.heap.size w w' := by
  have CK := Lib.hid (check_any w v M h)
  obtain ⟨k, hk⟩ : ∃ k, k = chkM M := ⟨_, rfl⟩
  rw [← hk] at CK h0 ⊢
  have hd : (k != 0) = true := int_bne h0
  clear hk h0 h
  go_enter Tryz.func23, Tryz.ntmps23
  go_wp2_with (go_at_call 45; refine CK.out.mono ?_; rintro e w1 ⟨rfl, hb1⟩)
  go_ret2
  exact ⟨rfl, hb1⟩
set_option maxRecDepth 100000 in
theorem transform_bad (w : World) (v : Value) (M : List (List Int)) (h : MatAt w v M) (h0 : chkM M ≠ 0) : Calls Tryz.prog 22 #[v] w fun e w' => e = .returned (.tuple #[.slice none 0 0, .int .i64 (chkM M)]) ∧ Below w.heap.size w w' := by
  have FB : Hid (Calls Tryz.prog 12 #[v] w fun e w' => e = .returned (.tuple #[.slice none 0 0, .int .i64 (chkM M)]) ∧ Below w.heap.size w w') := Lib.hid ((form_bad w v M h h0).mono (by
    rintro e w' ⟨h1 | h1, hb⟩
    · exact ⟨h1.2, hb⟩
    · exact absurd h1.1 h0))
  obtain ⟨k, hk⟩ : ∃ k, k = chkM M := ⟨_, rfl⟩
  rw [← hk] at FB h0 ⊢
  have hd : (k != 0) = true := int_bne h0
  clear hk h0 h
  go_enter Tryz.func22, Tryz.ntmps22
  go_wp2_with (go_at_call 12; refine FB.out.mono ?_; rintro e w1 ⟨rfl, hb1⟩)
  go_ret2
  exact ⟨rfl, hb1⟩

/-! ### The reference -/
theorem lim_not_at {xs : List Int} {k : Nat} (hk : k < xs.length) (h : xs.getD k 0 < -1000000000 ∨ 1000000000 < xs.getD k 0) : ¬ Lim xs := fun hl => by
  have := hl _ (getD_mem 0 hk)
  omega
set_option maxRecDepth 100000 in
set_option maxHeartbeats 1600000 in
theorem refCheck_any (w : World) (v : Value) (M : List (List Int)) (h : MatAt w v M) :
    Calls Tryz.prog 20 #[v] w fun e w' => e = .returned (.int .i64 (chkM M)) ∧ Below w.heap.size w w' := by
  obtain ⟨p, c, rfl, hc, hmax, hcell⟩ := h
  obtain ⟨m, hm⟩ : ∃ m, m = M.length := ⟨_, rfl⟩
  have HM := Lib.hid hm.symm
  rw [← hm] at hc hmax hcell ⊢
  have HC := Lib.hid hcell
  clear hcell hm
  by_cases hbig : 12 < m
  · have e : Hid (chkM M = 4) := Lib.hid (by unfold chkM; rw [if_pos (by rw [HM.out]; exact hbig)])
    go_enter Tryz.func20, Tryz.ntmps20
    go_wp2_with fail
    go_ret
    exact ⟨by rw [e.out]; rfl, nb_refl _⟩
  · have e : Hid (chkM M = chkRows (M.getD 0 []).length (M.drop 0)) := Lib.hid (by unfold chkM; rw [if_neg (by rw [HM.out]; exact hbig)]; rfl)
    go_enter Tryz.func20, Tryz.ntmps20
    go_wp2_with fail
    go_loopw [3] (fun s3 wr => ∃ i : Nat, i ≤ m ∧ s3 = .int .i64 i ∧ Hid (chkM M = chkRows (M.getD 0 []).length (M.drop i)) ∧ Below w.heap.size w wr) (fun s3 _ => m - (intOf s3).toNat)
    case atStart => exact ⟨0, Nat.zero_le _, rfl, e, nb_refl _⟩
    case round =>
      clear e
      obtain ⟨i, hi, rfl, he, hb⟩ := hrel
      by_cases him : i < m
      · obtain ⟨b, o, u, rfl, hu, hr⟩ := HC.out i him
        obtain ⟨b', o', u0, hpe, hu0, hr0⟩ := HC.out 0 (by omega)
        cases hpe
        have hrr := hr
        obtain ⟨pr, cr, rfl, hlr, hmr⟩ := hr.slice_
        obtain ⟨p0, c0, rfl, -, -⟩ := hr0.slice_
        rw [Nat.add_zero] at hu0
        have hu' := cellB hb hu
        have hu0' := cellB hb hu0
        have ed : M.drop i = M.getD i [] :: M.drop (i + 1) := by
          rw [List.drop_eq_getElem_cons (by rw [HM.out]; exact him), List.getD_eq_getElem?_getD, List.getElem?_eq_getElem (by rw [HM.out]; exact him)]; rfl
        have he' := he.out
        rw [ed] at he'
        obtain ⟨xr, hxr⟩ : ∃ xr, xr = M.getD i [] := ⟨_, rfl⟩
        obtain ⟨x0, hx0⟩ : ∃ xr, xr = M.getD 0 [] := ⟨_, rfl⟩
        rw [← hxr] at he' hu' hu hlr hmr hrr
        rw [← hx0] at he' hu0'
        unfold chkRows at he'
        have HRR := Lib.hid hrr
        obtain ⟨ln, hln⟩ : ∃ l, l = xr.length := ⟨_, rfl⟩
        obtain ⟨l0, hl0⟩ : ∃ l, l = x0.length := ⟨_, rfl⟩
        have HLN := Lib.hid hln.symm
        rw [← hln] at he' hu' hu hlr hmr HRR
        rw [← hl0] at he' hu0'
        have HX := Lib.hid hx0
        have HL := Lib.hid hl0
        have HU := Lib.hid hu
        clear hxr hx0 hln hl0 hu hu0 hr hr0 he ed hrr
        have i3 : (i : Int) < (m : Int) := by omega
        have i4 : (0 : Int) ≤ (i : Int) := by omega
        by_cases h1 : 12 < ln
        · rw [if_pos h1] at he'
          have HE := Lib.hid he'
          clear he'
          go_wp2_with fail
          go_ret
          exact ⟨by rw [HE.out]; rfl, hb⟩
        · rw [if_neg h1] at he'
          by_cases h2 : ln ≠ l0
          · rw [if_pos h2] at he'
            have HE := Lib.hid he'
            have h3 : ((ln : Int) != (l0 : Int)) = true := by rw [bne_iff_ne]; omega
            clear he' h2
            go_wp2_with fail
            go_quiet (fail)
            go_wp2_with fail
            go_ret
            exact ⟨by rw [HE.out]; rfl, hb.trans ((nb_drewN _ _).mono hb.size)⟩
          · rw [if_neg h2] at he'
            have hll : l0 = ln := by omega
            rw [hll] at he' hu0' HL
            clear hll h2
            clear l0
            have HE := Lib.hid he'
            clear he'
            go_wp2_with fail
            go_quiet (fail)
            have hbd := hb.trans ((nb_drewN wr nq).mono hb.size)
            go_wp2_with fail
            go_loopw [4] (fun s4 wx => ∃ k : Nat, k ≤ ln ∧ s4 = .int .i64 k ∧ Hid (∀ j, j < k → -1000000000 ≤ xr.getD j 0 ∧ xr.getD j 0 ≤ 1000000000) ∧ Below w.heap.size w wx) (fun s4 _ => ln - (intOf s4).toNat)
            case atStart => exact ⟨0, Nat.zero_le _, rfl, (fun j hj => by omega), hbd⟩
            case round =>
              obtain ⟨k, hk, rfl, hj, hbw⟩ := hrel
              have q1 := cellB hbw HU.out
              by_cases hkl : k < ln
              · obtain ⟨b2, o2, c2, hve, -, hrc⟩ := HRR.out.open_ (by rw [HLN.out]; omega)
                rw [HLN.out] at hve hrc
                cases hve
                have hk2 := cellB hbw (hrc k hkl)
                obtain ⟨y, hy⟩ : ∃ y, y = xr.getD k 0 := ⟨_, rfl⟩
                have HY := Lib.hid hy
                rw [← hy] at hk2
                clear hy hrc
                have i1 : (k : Int) < (ln : Int) := by omega
                have i2 : (0 : Int) ≤ (k : Int) := by omega
                have i3 : (i : Int) < (m : Int) := by omega
                have i4 : (0 : Int) ≤ (i : Int) := by omega
                by_cases hy1 : 1000000000 < y
                · have HR : Hid (chkM M = 4) := Lib.hid (by rw [HE.out, if_neg (lim_not_at (by rw [HLN.out]; exact hkl) (by rw [← HY.out]; exact .inr hy1))])
                  have hd : decide (1000000000 < y) = true := decide_eq_true hy1
                  go_wp2_with fail
                  go_ret
                  exact ⟨by rw [HR.out]; rfl, hbw⟩
                · have hd : decide (1000000000 < y) = false := decide_eq_false hy1
                  by_cases hy2 : y < -1000000000
                  · have HR : Hid (chkM M = 4) := Lib.hid (by rw [HE.out, if_neg (lim_not_at (by rw [HLN.out]; exact hkl) (by rw [← HY.out]; exact .inl hy2))])
                    have hd2 : decide (y < -1000000000) = true := decide_eq_true hy2
                    go_wp2_with fail
                    go_ret
                    exact ⟨by rw [HR.out]; rfl, hbw⟩
                  · have hd2 : decide (y < -1000000000) = false := decide_eq_false hy2
                    have HJ : Hid (∀ j, j < k + 1 → -1000000000 ≤ xr.getD j 0 ∧ xr.getD j 0 ≤ 1000000000) := Lib.hid (fun j hjk => by
                      rcases Nat.lt_or_eq_of_le (Nat.le_of_lt_succ hjk) with h | rfl
                      · exact hj.out j h
                      · rw [← HY.out]; omega)
                    go_wp2_with fail
                    go_roundw
                    case rel => exact ⟨k + 1, by omega, by go_num, HJ, hbw⟩
                    case measure => (simp [intOf]) <;> omega
              · obtain rfl : k = ln := by omega
                have hlim : Lim xr := fun x hx => by
                  obtain ⟨j, hj', rfl⟩ := List.mem_iff_getElem.1 hx
                  have := hj.out j (by rw [← HLN.out]; exact hj')
                  rw [List.getD_eq_getElem?_getD, List.getElem?_eq_getElem hj'] at this
                  exact this
                have HR : Hid (chkM M = chkRows (M.getD 0 []).length (M.drop (i + 1))) := Lib.hid (by rw [HE.out, if_pos hlim, HL.out, HX.out])
                clear hlim
                go_wp2_with fail
                go_roundw
                case rel => first | exact ⟨i + 1, by omega, by go_num, HR, hbw⟩ | ((repeat apply Exists.intro); refine ⟨?_, rfl⟩; exact ⟨i + 1, by omega, by go_num, HR, hbw⟩)
                case measure => (simp [intOf]) <;> omega
      · obtain rfl : i = m := by omega
        have HE := Lib.hid he.out
        clear he
        go_wp2_with fail
        go_ret
        refine ⟨?_, hb⟩
        have h := HE.out
        rw [List.drop_eq_nil_of_le (by rw [HM.out]; exact Nat.le_refl _)] at h
        rw [h]
        rfl

set_option maxRecDepth 100000 in
theorem refFirst_any (w : World) (v : Value) (xs : List Int) (h : RowAt w v xs) :
    Calls Tryz.prog 60 #[v] w fun e w' => e = .returned (.int .i64 (pv xs)) ∧ Below w.heap.size w w' := by
  obtain ⟨p, c, rfl, hc, hmax, -, hcell⟩ := h
  obtain ⟨n, hnl⟩ : ∃ n, n = xs.length := ⟨_, rfl⟩
  rw [← hnl] at hc hmax hcell ⊢
  have HC := Lib.hid hcell
  have HP := Lib.hid (fun r (hr : firstAt (fun i => decide (xs.getD i 0 ≠ 0)) n r) => firstAt_unique (hnl ▸ hr) (pv_first xs))
  clear hcell hnl
  go_enter Tryz.func60, Tryz.ntmps60
  go_wp2_with fail
  go_loopw [3] (fun s3 wr => ∃ i : Nat, i ≤ n ∧ s3 = .int .i64 i ∧ Hid (∀ j, j < i → xs.getD j 0 = 0) ∧ Below w.heap.size w wr) (fun s3 _ => n - (intOf s3).toNat)
  case atStart => exact ⟨0, Nat.zero_le _, rfl, (fun j hj => by omega), nb_refl _⟩
  case round =>
    obtain ⟨i, hi, rfl, hp, hb⟩ := hrel
    by_cases hin : i < n
    · obtain ⟨b, o, rfl, hcl⟩ := HC.out i hin
      have hcl' := cellB hb hcl
      obtain ⟨x, hx⟩ : ∃ x, x = xs.getD i 0 := ⟨_, rfl⟩
      rw [← hx] at hcl'
      have HX := Lib.hid hx
      clear hx hcl
      by_cases hx0 : x = 0
      · have HP' : Hid (∀ j, j < i + 1 → xs.getD j 0 = 0) := Lib.hid (fun j hj => by
          rcases Nat.lt_or_eq_of_le (Nat.le_of_lt_succ hj) with h | rfl
          · exact hp.out j h
          · rw [← HX.out]; exact hx0)
        subst hx0
        go_wp2_with fail
        go_roundw
        case rel => exact ⟨i + 1, by omega, by go_num, HP', hb⟩
        case measure => (simp [intOf]) <;> omega
      · have hd : (x != 0) = true := int_bne hx0
        have HR : Hid ((i : Int) = pv xs) := Lib.hid (HP.out _ (.inr ⟨by omega, by omega, by rw [Int.toNat_natCast]; exact decide_eq_true (by rw [← HX.out]; exact hx0), fun j hj => by rw [Int.toNat_natCast] at hj; exact decide_eq_false (by rw [hp.out j hj]; exact fun h => h rfl)⟩))
        clear hx0
        go_wp2_with fail
        go_ret
        exact ⟨by rw [← HR.out]; rfl, hb⟩
    · obtain rfl : i = n := by omega
      have HR : Hid (-1 = pv xs) := Lib.hid (HP.out _ (.inl ⟨rfl, fun j hj => decide_eq_false (by rw [hp.out j hj]; exact fun h => h rfl)⟩))
      go_wp2_with fail
      go_ret
      exact ⟨by rw [← HR.out]; rfl, hb⟩
end Go.Proofs.YtmfkpmepgbjmkaaGreatDoor

namespace Go.Proofs.YtmfkpmepgbjmkaaGreatDoor
open Go.RowKit

set_option maxRecDepth 100000 in
set_option maxHeartbeats 1600000 in
theorem refIsForm_any (w : World) (v : Value) (M : List (List Int)) (n : Nat) (h : MatAt w v M) (hn : ∀ r ∈ M, r.length = n) (hn1 : n ≤ 1000) :
    Calls Tryz.prog 25 #[v] w fun e w' => e = .returned (.bool (isFormB M)) ∧ Below w.heap.size w w' := by
  obtain ⟨p, c, rfl, hc, hmax, hcell⟩ := h
  obtain ⟨m, hm⟩ : ∃ m, m = M.length := ⟨_, rfl⟩
  have HM := Lib.hid hm.symm
  rw [← hm] at hc hmax hcell ⊢
  have HC := Lib.hid hcell
  have HN := Lib.hid hn
  clear hcell hm hn
  go_enter Tryz.func25, Tryz.ntmps25
  go_wp2_with fail
  go_loopw [3, 4] (fun s3 s4 wr => ∃ (i : Nat) (b : Int), i ≤ m ∧ s3 = .int .i64 b ∧ s4 = .int .i64 i ∧ -1 ≤ b ∧ Hid (isFormB M = isFm (M.take i) b (M.drop i)) ∧ Below w.heap.size w wr) (fun _ s4 _ => m - (intOf s4).toNat)
  case atStart => exact ⟨0, -1, Nat.zero_le _, rfl, rfl, by omega, rfl, nb_refl _⟩
  case round =>
    obtain ⟨i, b, hi, rfl, rfl, hb1, he, hb⟩ := hrel
    by_cases him : i < m
    · obtain ⟨bb, o, u, rfl, hu, hr⟩ := HC.out i him
      have hu' := cellB hb hu
      have ed : M.drop i = M.getD i [] :: M.drop (i + 1) := by
        rw [List.drop_eq_getElem_cons (by rw [HM.out]; exact him), List.getD_eq_getElem?_getD, List.getElem?_eq_getElem (by rw [HM.out]; exact him)]; rfl
      have et : M.take i ++ [M.getD i []] = M.take (i + 1) := by
        rw [List.take_succ_eq_append_getElem (by rw [HM.out]; exact him), List.getD_eq_getElem?_getD, List.getElem?_eq_getElem (by rw [HM.out]; exact him)]; rfl
      have he' := he.out
      rw [ed, isFm_cons, et] at he'
      have hlen := HN.out _ (getD_mem [] (by rw [HM.out]; exact him))
      obtain ⟨r, hrr⟩ : ∃ r, r = M.getD i [] := ⟨_, rfl⟩
      rw [← hrr] at he' hlen hr
      clear hrr ed et he
      have PV := Lib.hid (fun W (hW : Below w.heap.size w W) => refFirst_any W u r (hr.nb hW))
      have HPS := Lib.hid (pv_spec r)
      obtain ⟨pr, cr, rfl, hcr, -⟩ := hr.slice_
      have hrO := hr.open_
      rw [hlen] at hcr hu' hu hrO PV
      have HRO := Lib.hid hrO
      have HU := Lib.hid hu
      have HLEN := Lib.hid hlen
      obtain ⟨z, hz⟩ : ∃ z, z = pv r := ⟨_, rfl⟩
      rw [← hz] at PV HPS he'
      clear hz hrO hlen hr hu
      by_cases hzb : z ≤ b
      · rw [if_pos hzb] at he'
        have HE := Lib.hid he'
        have hd : decide (z ≤ b) = true := decide_eq_true hzb
        clear he'
        go_wp2_with (go_at_call 60; refine (PV.out _ hb).mono ?_; rintro e w1 ⟨rfl, hb2⟩)
        go_ret
        exact ⟨by rw [HE.out]; rfl, hb.trans (hb2.mono hb.size)⟩
      · rw [if_neg hzb] at he'
        obtain ⟨pn, rfl⟩ : ∃ pn : Nat, z = pn := ⟨z.toNat, by omega⟩
        have hpn : pn < n := by
          rcases HPS.out with ⟨h, _⟩ | ⟨_, h, _⟩
          · omega
          · rw [HLEN.out] at h; omega
        obtain ⟨b2, o2, c2, hpe, -, hcellr⟩ := HRO.out (by omega)
        cases hpe
        have hk0 := hcellr pn hpn
        rw [Int.toNat_natCast] at he'
        obtain ⟨y, hy⟩ : ∃ y, y = r.getD pn 0 := ⟨_, rfl⟩
        have HY := Lib.hid hy
        rw [← hy] at hk0 he'
        have HK0 := Lib.hid hk0
        have hk := cellB hb hk0
        have hd : decide ((pn : Int) ≤ b) = false := decide_eq_false hzb
        have i1 : (pn : Int) < (n : Int) := by omega
        have i2 : (0 : Int) ≤ (pn : Int) := by omega
        have i3 : (i : Int) < (m : Int) := by omega
        have i4 : (0 : Int) ≤ (i : Int) := by omega
        clear hcellr hy hk0
        by_cases hy0 : y < 0
        · rw [if_pos hy0] at he'
          have HE := Lib.hid he'
          have hd2 : decide (y < 0) = true := decide_eq_true hy0
          clear he'
          go_wp2_with (go_at_call 60; refine (PV.out _ hb).mono ?_; rintro e w1 ⟨rfl, hb2⟩; have q1 := cellB hb2 hu'; have q2 := cellB hb2 hk)
          go_ret
          exact ⟨by rw [HE.out]; rfl, hb.trans (hb2.mono hb.size)⟩
        · rw [if_neg hy0] at he'
          have HE := Lib.hid he'
          have hd2 : decide (y < 0) = false := decide_eq_false hy0
          clear he'
          go_wp2_with (go_at_call 60; refine (PV.out _ hb).mono ?_; rintro e w1 ⟨rfl, hb2⟩; have q1 := cellB hb2 hu'; have q2 := cellB hb2 hk)
          have hbw1 := hb.trans (hb2.mono hb.size)
          clear q1 q2 hk hu' hb hb2
          go_loopw [6] (fun s6 wx => ∃ k : Nat, k ≤ i ∧ s6 = .int .i64 k ∧ Hid (∀ j, j < k → unfit pn r (M.getD j []) = false) ∧ Below w.heap.size w wx) (fun s6 _ => i - (intOf s6).toNat)
          case atStart => exact ⟨0, Nat.zero_le _, rfl, (fun j hj => by omega), hbw1⟩
          case round =>
            clear hbw1
            obtain ⟨k, hk, rfl, hj, hbw⟩ := hrel
            have q1 := cellB hbw HU.out
            have q2 := cellB hbw HK0.out
            by_cases hki : k < i
            · obtain ⟨b3, o3, u3', hpe, hu3, hr3⟩ := HC.out k (by omega)
              cases hpe
              have hl3 := HN.out _ (getD_mem [] (show k < M.length by rw [HM.out]; omega))
              obtain ⟨b4, o4, c4, hv4, -, hc4⟩ := hr3.open_ (by omega)
              rw [hl3] at hv4 hc4
              subst hv4
              have q3 := cellB hbw hu3
              have q4 := cellB hbw (hc4 pn hpn)
              obtain ⟨x, hx⟩ : ∃ x, x = (M.getD k []).getD pn 0 := ⟨_, rfl⟩
              have HXU : Hid (unfit pn r (M.getD k []) = (decide (x < 0) || decide (y ≤ x))) := Lib.hid (by unfold unfit; rw [← hx, ← HY.out])
              rw [← hx] at q4
              have i5 : (k : Int) < (m : Int) := by omega
              have i6 : (0 : Int) ≤ (k : Int) := by omega
              clear hx hu3 hr3 hl3 hc4
              by_cases hx0 : x < 0
              · have HR : Hid (isFormB M = false) := Lib.hid (by
                  have hxx : ∃ j, j < (M.take i).length ∧ unfit pn r ((M.take i).getD j []) = true := ⟨k, by rw [List.length_take, HM.out]; omega, by
                    rw [List.getD_eq_getElem?_getD, List.getElem?_take_of_lt hki, ← List.getD_eq_getElem?_getD, HXU.out, decide_eq_true hx0, Bool.true_or]⟩
                  rw [HE.out, if_pos hxx])
                have hd3 : decide (x < 0) = true := decide_eq_true hx0
                go_wp2_with fail
                go_quiet (fail)
                go_wp2_with fail
                go_ret
                exact ⟨by rw [HR.out]; rfl, hbw.trans ((nb_drewN _ _).mono hbw.size)⟩
              · have hd3 : decide (x < 0) = false := decide_eq_false hx0
                by_cases hyx : y ≤ x
                · have HR : Hid (isFormB M = false) := Lib.hid (by
                    have hxx : ∃ j, j < (M.take i).length ∧ unfit pn r ((M.take i).getD j []) = true := ⟨k, by rw [List.length_take, HM.out]; omega, by
                      rw [List.getD_eq_getElem?_getD, List.getElem?_take_of_lt hki, ← List.getD_eq_getElem?_getD, HXU.out, decide_eq_true hyx, Bool.or_true]⟩
                    rw [HE.out, if_pos hxx])
                  have hd4 : decide (y ≤ x) = true := decide_eq_true hyx
                  go_wp2_with fail
                  go_quiet (fail)
                  go_wp2_with fail
                  go_ret
                  exact ⟨by rw [HR.out]; rfl, hbw.trans ((nb_drewN _ _).mono hbw.size)⟩
                · have hd4 : decide (y ≤ x) = false := decide_eq_false hyx
                  have HJ : Hid (∀ j, j < k + 1 → unfit pn r (M.getD j []) = false) := Lib.hid (fun j hjk => by
                    rcases Nat.lt_or_eq_of_le (Nat.le_of_lt_succ hjk) with h | rfl
                    · exact hj.out j h
                    · rw [HXU.out, hd3, hd4]; rfl)
                  go_wp2_with fail
                  go_quiet (fail)
                  go_wp2_with fail
                  go_roundw
                  case rel => exact ⟨k + 1, by omega, by go_num, HJ, hbw.trans ((nb_drewN _ _).mono hbw.size)⟩
                  case measure => (simp [intOf]) <;> omega
            · obtain rfl : k = i := by omega
              have HR : Hid (isFormB M = isFm (M.take (k + 1)) pn (M.drop (k + 1))) := Lib.hid (by
                rw [HE.out, if_neg]
                rintro ⟨j, hjl, hju⟩
                rw [List.length_take] at hjl
                rw [List.getD_eq_getElem?_getD, List.getElem?_take_of_lt (by omega), ← List.getD_eq_getElem?_getD, hj.out j (by omega)] at hju
                cases hju)
              go_wp2_with fail
              go_roundw
              case rel => first | exact ⟨k + 1, pn, by omega, by go_num, by go_num, by omega, HR, hbw⟩ | ((repeat apply Exists.intro); refine ⟨?_, rfl⟩; exact ⟨k + 1, pn, by omega, by go_num, by go_num, by omega, HR, hbw⟩)
              case measure => (simp [intOf]) <;> omega
    · obtain rfl : i = m := by omega
      have HE := Lib.hid he.out
      clear he
      go_wp2_with fail
      go_ret
      refine ⟨?_, hb⟩
      have h := HE.out
      rw [List.drop_eq_nil_of_le (by rw [HM.out]; exact Nat.le_refl _)] at h
      rw [h]
      rfl

set_option maxRecDepth 100000 in
set_option maxHeartbeats 1600000 in
theorem refPivots_any (w : World) (v : Value) (M : List (List Int)) (h : MatAt w v M) (hm12 : M.length ≤ 1000) :
    Calls Tryz.prog 27 #[v] w fun e w' => ∃ u, e = .returned u ∧ RowAt w' u (M.map pv) ∧ Below w.heap.size w w' := by
  obtain ⟨i0, hi0, hz0, hz1, hz2⟩ := info_parts Tryz.infoI
  have HPV : Hid (∀ r ∈ M, I64 (pv r)) := Lib.hid (by
    intro r hr
    obtain ⟨i, hi, rfl⟩ := List.mem_iff_getElem.1 hr
    obtain ⟨u, hu⟩ := h.row hi
    have := hu.slice_
    rw [List.getD_eq_getElem?_getD, List.getElem?_eq_getElem hi] at this
    obtain ⟨p, c, _, _, h2⟩ := this
    exact pv_i64 _ h2)
  obtain ⟨p, c, rfl, hc, hmax, hcell⟩ := h
  obtain ⟨m, hm⟩ : ∃ m, m = M.length := ⟨_, rfl⟩
  have HM := Lib.hid hm.symm
  rw [← hm] at hc hmax hcell hm12 ⊢
  have HC := Lib.hid hcell
  clear hcell hm
  go_enter Tryz.func27, Tryz.ntmps27
  go_wp2_with fail
  go_loopw [3, 4] (fun s3 s4 wr => ∃ i : Nat, i ≤ m ∧ s4 = .int .i64 i ∧ Hid (wr.ownsRow w.heap.size 3 1 s3 i (ints ((M.map pv).take i))) ∧ Below w.heap.size w wr) (fun _ s4 _ => m - (intOf s4).toNat)
  case atStart => exact ⟨0, Nat.zero_le _, rfl, World.ownsRow_nil _ _ _ _, nb_refl _⟩
  case round =>
    obtain ⟨i, hi, rfl, hst, hb⟩ := hrel
    obtain ⟨vo, hvo⟩ : ∃ x, x = u3 := ⟨_, rfl⟩
    subst hvo
    by_cases him : i < m
    · obtain ⟨b, o, u, rfl, hu, hr⟩ := HC.out i him
      have hu' := cellB hb hu
      obtain ⟨r, hrr⟩ : ∃ r, r = M.getD i [] := ⟨_, rfl⟩
      have PV := Lib.hid (fun W (hW : Below w.heap.size w W) => refFirst_any W u _ (hr.nb hW))
      rw [← hrr] at PV hr
      obtain ⟨pr, cr, rfl, -, -⟩ := hr.slice_
      have hmi : (M.map pv).getD i 0 = pv r := by
        rw [hrr, List.getD_eq_getElem?_getD, List.getElem?_map, List.getD_eq_getElem?_getD, List.getElem?_eq_getElem (by rw [HM.out]; exact him)]; rfl
      have hil : i < (M.map pv).length := by rw [List.length_map, HM.out]; exact him
      obtain ⟨y, hy⟩ : ∃ y, y = pv r := ⟨_, rfl⟩
      rw [← hy] at PV hmi
      obtain ⟨ln, hln⟩ : ∃ l, l = r.length := ⟨_, rfl⟩
      rw [← hln] at PV hu'
      have HMI := Lib.hid (And.intro hmi hil)
      clear hrr hmi hil hy hln hr hu
      go_wp2_with (first
        | (go_at_call 60; refine (PV.out _ hb).mono ?_; rintro e w2 ⟨rfl, hb2⟩)
        | (at_builtin; refine wpList_append_own _ rfl _ _ 34 rfl w.heap.size 3 i0 (.int .i64 0) 1 8 Tryz.underlying34 hi0 hz0 hz1 hz2 rfl (by decide) vo i _ rfl ((own_nb2 hst.out hb2).alloc _) ⟨w2.heap.size, 0, none⟩ 1 1 [.int .i64 y] rfl rfl (cell_one_new _ _ _) (by intro u hu; simp at hu; subst hu; rfl) (by unfold maxLen; omega) (by omega) (by have := (hb.trans (hb2.mono hb.size)).size; rw [alloc_size]; omega) ?_; intro v' w3 hown3 hgrow3 hnil3))
      have HB3 : Below w.heap.size w w3 := ((hb.trans (hb2.mono hb.size)).trans ((nb_alloc w2 _).mono (hb.trans (hb2.mono hb.size)).size)).trans (grown_below (base := 0) (n := 0) (T := 0) (xs := []) hgrow3 (by rw [alloc_size]; have := (hb.trans (hb2.mono hb.size)).size; omega) (fun k hk => (hst.out.lt k hk).1))
      have HO3 : Hid (w3.ownsRow w.heap.size 3 1 v' (i + 1) (ints ((M.map pv).take (i + 1)))) := Lib.hid (by
        rw [← HMI.out.1, ints_take HMI.out.2] at hown3; exact hown3)
      clear hown3 hgrow3 hnil3 hb2
      go_wp2_with fail
      go_roundw
      case rel => exact ⟨i + 1, by omega, by go_num, HO3, HB3⟩
      case measure => (simp [intOf]) <;> omega
    · obtain rfl : i = m := by omega
      have HE := Lib.hid hst.out
      clear hst
      go_wp2_with fail
      go_ret
      have h2 := HE.out
      rw [List.take_of_length_le (by rw [List.length_map, HM.out]; exact Nat.le_refl _)] at h2
      refine ⟨vo, rfl, own_rowAt h2 ?_, hb⟩
      intro x hx
      obtain ⟨r, hr, rfl⟩ := List.mem_map.1 hx
      exact HPV.out r hr
end Go.Proofs.YtmfkpmepgbjmkaaGreatDoor

namespace Go.Proofs.YtmfkpmepgbjmkaaGreatDoor
open Go.RowKit

theorem list_ext_getD {α : Type} (d : α) {xs ys : List α} (hl : xs.length = ys.length) (h : ∀ j, j < xs.length → xs.getD j d = ys.getD j d) : xs = ys := by
  apply List.ext_getElem hl
  intro i h1 h2
  have := h i h1
  rw [List.getD_eq_getElem?_getD, List.getD_eq_getElem?_getD, List.getElem?_eq_getElem h1, List.getElem?_eq_getElem h2] at this
  exact this
set_option maxRecDepth 100000 in
set_option maxHeartbeats 1600000 in
theorem eqRows_any (w : World) (va vb : Value) (xs ys : List Int) (ha : RowAt w va xs) (hb : RowAt w vb ys) :
    Calls Tryz.prog 26 #[va, vb] w fun e w' => e = .returned (.bool (decide (xs = ys))) ∧ Below w.heap.size w w' := by
  obtain ⟨p, c, rfl, -, hmax, -, hcell⟩ := ha
  obtain ⟨q, d, rfl, -, hmax2, -, hcell2⟩ := hb
  by_cases hl : xs.length = ys.length
  · obtain ⟨n, hn⟩ : ∃ n, n = xs.length := ⟨_, rfl⟩
    rw [← hl, ← hn] at hcell2 hmax2 ⊢
    rw [← hn] at hcell hmax
    have HC := Lib.hid (And.intro hcell hcell2)
    have HL := Lib.hid (And.intro hn hl)
    obtain ⟨R, hR⟩ : ∃ R, R = decide (xs = ys) := ⟨_, rfl⟩
    rw [← hR]
    have HR := Lib.hid hR
    clear hcell hcell2 hl hn hR
    go_enter Tryz.func26, Tryz.ntmps26
    go_wp2_with fail
    go_loopw [5] (fun s5 wr => ∃ i : Nat, i ≤ n ∧ s5 = .int .i64 i ∧ Hid (∀ j, j < i → xs.getD j 0 = ys.getD j 0) ∧ Below w.heap.size w wr) (fun s5 _ => n - (intOf s5).toNat)
    case atStart => exact ⟨0, Nat.zero_le _, rfl, (fun j hj => by omega), nb_refl _⟩
    case round =>
      obtain ⟨i, hi, rfl, hj, hb⟩ := hrel
      by_cases hin : i < n
      · obtain ⟨b1, o1, rfl, h1⟩ := HC.out.1 i hin
        obtain ⟨b2, o2, rfl, h2⟩ := HC.out.2 i hin
        have k1 := cellB hb h1
        have k2 := cellB hb h2
        obtain ⟨x, hx⟩ : ∃ x, x = xs.getD i 0 := ⟨_, rfl⟩
        obtain ⟨y, hy⟩ : ∃ y, y = ys.getD i 0 := ⟨_, rfl⟩
        rw [← hx] at k1
        rw [← hy] at k2
        have HXY := Lib.hid (And.intro hx hy)
        have i1 : (i : Int) < (n : Int) := by omega
        have i2 : (0 : Int) ≤ (i : Int) := by omega
        clear hx hy h1 h2
        by_cases hxy : x = y
        · have HJ : Hid (∀ j, j < i + 1 → xs.getD j 0 = ys.getD j 0) := Lib.hid (fun j hjk => by
            rcases Nat.lt_or_eq_of_le (Nat.le_of_lt_succ hjk) with h | rfl
            · exact hj.out j h
            · rw [← HXY.out.1, ← HXY.out.2]; exact hxy)
          subst hxy
          go_wp2_with fail
          go_quiet (fail)
          go_wp2_with fail
          go_roundw
          case rel => exact ⟨i + 1, by omega, by go_num, HJ, hb.trans ((nb_drewN _ _).mono hb.size)⟩
          case measure => (simp [intOf]) <;> omega
        · have hd : (x != y) = true := by rw [bne_iff_ne]; exact hxy
          have HF : Hid (R = false) := Lib.hid (by rw [HR.out]; exact decide_eq_false (fun h => hxy (by rw [HXY.out.1, HXY.out.2, h])))
          clear hxy
          go_wp2_with fail
          go_quiet (fail)
          go_wp2_with fail
          go_ret
          exact ⟨by rw [HF.out]; rfl, hb.trans ((nb_drewN _ _).mono hb.size)⟩
      · obtain rfl : i = n := by omega
        have HT : Hid (R = true) := Lib.hid (by rw [HR.out]; exact decide_eq_true (list_ext_getD 0 HL.out.2 (by rw [← HL.out.1]; exact hj.out)))
        go_wp2_with fail
        go_ret
        exact ⟨by rw [HT.out]; rfl, hb⟩
  · have hR : decide (xs = ys) = false := decide_eq_false (fun h => hl (by rw [h]))
    rw [hR]
    have hd : ((xs.length : Int) != (ys.length : Int)) = true := by rw [bne_iff_ne]; omega
    obtain ⟨n, hn⟩ : ∃ n, n = xs.length := ⟨_, rfl⟩
    obtain ⟨m, hm⟩ : ∃ n, n = ys.length := ⟨_, rfl⟩
    rw [← hn] at hd hmax ⊢
    rw [← hm] at hd hmax2 ⊢
    clear hl hn hm hR hcell hcell2
    go_enter Tryz.func26, Tryz.ntmps26
    go_wp2_with fail
    go_ret
    exact ⟨rfl, nb_refl _⟩
set_option maxRecDepth 100000 in
set_option maxHeartbeats 1600000 in
theorem eqMat_any (w : World) (va vb : Value) (A B : List (List Int)) (ha : MatAt w va A) (hb : MatAt w vb B) :
    Calls Tryz.prog 17 #[va, vb] w fun e w' => e = .returned (.bool (decide (A = B))) ∧ Below w.heap.size w w' := by
  obtain ⟨p, c, rfl, -, hmax, hcell⟩ := ha
  obtain ⟨q, d, rfl, -, hmax2, hcell2⟩ := hb
  by_cases hl : A.length = B.length
  · obtain ⟨n, hn⟩ : ∃ n, n = A.length := ⟨_, rfl⟩
    rw [← hl, ← hn] at hcell2 hmax2 ⊢
    rw [← hn] at hcell hmax
    have HC := Lib.hid (And.intro hcell hcell2)
    have HL := Lib.hid (And.intro hn hl)
    obtain ⟨R, hR⟩ : ∃ R, R = decide (A = B) := ⟨_, rfl⟩
    rw [← hR]
    have HR := Lib.hid hR
    clear hcell hcell2 hl hn hR
    go_enter Tryz.func17, Tryz.ntmps17
    go_wp2_with fail
    go_loopw [5] (fun s5 wr => ∃ i : Nat, i ≤ n ∧ s5 = .int .i64 i ∧ Hid (∀ j, j < i → A.getD j [] = B.getD j []) ∧ Below w.heap.size w wr) (fun s5 _ => n - (intOf s5).toNat)
    case atStart => exact ⟨0, Nat.zero_le _, rfl, (fun j hj => by omega), nb_refl _⟩
    case round =>
      obtain ⟨i, hi, rfl, hj, hb⟩ := hrel
      by_cases hin : i < n
      · obtain ⟨b1, o1, u1, rfl, h1, hr1⟩ := HC.out.1 i hin
        obtain ⟨b2, o2, u2, rfl, h2, hr2⟩ := HC.out.2 i hin
        have k1 := cellB hb h1
        have k2 := cellB hb h2
        obtain ⟨x, hx⟩ : ∃ x, x = A.getD i [] := ⟨_, rfl⟩
        obtain ⟨y, hy⟩ : ∃ y, y = B.getD i [] := ⟨_, rfl⟩
        rw [← hx] at hr1
        rw [← hy] at hr2
        have ER := Lib.hid (fun W (hW : Below w.heap.size w W) => eqRows_any W u1 u2 x y (hr1.nb hW) (hr2.nb hW))
        obtain ⟨pr, cr, rfl, -, -⟩ := hr1.slice_
        obtain ⟨ps, cs, rfl, -, -⟩ := hr2.slice_
        have HXY := Lib.hid (And.intro hx hy)
        have i1 : (i : Int) < (n : Int) := by omega
        have i2 : (0 : Int) ≤ (i : Int) := by omega
        obtain ⟨lx, hlx⟩ : ∃ l, l = x.length := ⟨_, rfl⟩
        obtain ⟨ly, hly⟩ : ∃ l, l = y.length := ⟨_, rfl⟩
        rw [← hlx] at ER k1
        rw [← hly] at ER k2
        clear hx hy h1 h2 hr1 hr2 hlx hly
        have KS : ∀ wa wb : World, Below wa.heap.size wa wb → (fun w' => Below w.heap.size w w' ∧ w'.cell? ⟨b1, o1 + i, none⟩ = some (.slice pr lx cr) ∧ w'.cell? ⟨b2, o2 + i, none⟩ = some (.slice ps ly cs)) wa → (fun w' => Below w.heap.size w w' ∧ w'.cell? ⟨b1, o1 + i, none⟩ = some (.slice pr lx cr) ∧ w'.cell? ⟨b2, o2 + i, none⟩ = some (.slice ps ly cs)) wb := fun wa wb hb h => ⟨h.1.trans (hb.mono h.1.size), cellB hb h.2.1, cellB hb h.2.2⟩
        by_cases hxy : x = y
        · rw [decide_eq_true hxy] at ER
          have HJ : Hid (∀ j, j < i + 1 → A.getD j [] = B.getD j []) := Lib.hid (fun j hjk => by
            rcases Nat.lt_or_eq_of_le (Nat.le_of_lt_succ hjk) with h | rfl
            · exact hj.out j h
            · rw [← HXY.out.1, ← HXY.out.2]; exact hxy)
          clear hxy
          go_wp2_with fail
          go_region_held3 (fun w' => Below w.heap.size w w' ∧ w'.cell? ⟨b1, o1 + i, none⟩ = some (.slice pr lx cr) ∧ w'.cell? ⟨b2, o2 + i, none⟩ = some (.slice ps ly cs))
            (first | exact KS _ _ hb1 (by assumption) | exact KS _ _ (nb_drew _) ⟨hb, k1, k2⟩)
            (first | (go_at_call 26; refine (ER.out _ ((by assumption : (fun w' => Below w.heap.size w w' ∧ w'.cell? ⟨b1, o1 + i, none⟩ = some (.slice pr lx cr) ∧ w'.cell? ⟨b2, o2 + i, none⟩ = some (.slice ps ly cs)) _).1)).mono ?_; rintro e w1 ⟨rfl, hb1⟩))
          have H1 := (by assumption : (fun w' => Below w.heap.size w w' ∧ w'.cell? ⟨b1, o1 + i, none⟩ = some (.slice pr lx cr) ∧ w'.cell? ⟨b2, o2 + i, none⟩ = some (.slice ps ly cs)) w1).1
          clear KS hb1
          go_wp2_with fail
          go_roundw
          case rel => exact ⟨i + 1, by omega, by go_num, HJ, H1⟩
          case measure => (simp [intOf]) <;> omega
        · rw [decide_eq_false hxy] at ER
          have HF : Hid (R = false) := Lib.hid (by rw [HR.out]; exact decide_eq_false (fun h => hxy (by rw [HXY.out.1, HXY.out.2, h])))
          clear hxy
          go_wp2_with fail
          go_region_held3 (fun w' => Below w.heap.size w w' ∧ w'.cell? ⟨b1, o1 + i, none⟩ = some (.slice pr lx cr) ∧ w'.cell? ⟨b2, o2 + i, none⟩ = some (.slice ps ly cs))
            (first | exact KS _ _ hb1 (by assumption) | exact KS _ _ (nb_drew _) ⟨hb, k1, k2⟩)
            (first | (go_at_call 26; refine (ER.out _ ((by assumption : (fun w' => Below w.heap.size w w' ∧ w'.cell? ⟨b1, o1 + i, none⟩ = some (.slice pr lx cr) ∧ w'.cell? ⟨b2, o2 + i, none⟩ = some (.slice ps ly cs)) _).1)).mono ?_; rintro e w1 ⟨rfl, hb1⟩))
          have H1 := (by assumption : (fun w' => Below w.heap.size w w' ∧ w'.cell? ⟨b1, o1 + i, none⟩ = some (.slice pr lx cr) ∧ w'.cell? ⟨b2, o2 + i, none⟩ = some (.slice ps ly cs)) w1).1
          clear KS hb1
          go_wp2_with fail
          go_ret
          exact ⟨by rw [HF.out]; rfl, H1⟩
      · obtain rfl : i = n := by omega
        have HT : Hid (R = true) := Lib.hid (by rw [HR.out]; exact decide_eq_true (list_ext_getD [] HL.out.2 (by rw [← HL.out.1]; exact hj.out)))
        go_wp2_with fail
        go_ret
        exact ⟨by rw [HT.out]; rfl, hb⟩
  · have hR : decide (A = B) = false := decide_eq_false (fun h => hl (by rw [h]))
    rw [hR]
    have hd : ((A.length : Int) != (B.length : Int)) = true := by rw [bne_iff_ne]; omega
    obtain ⟨n, hn⟩ : ∃ n, n = A.length := ⟨_, rfl⟩
    obtain ⟨m, hm⟩ : ∃ n, n = B.length := ⟨_, rfl⟩
    rw [← hn] at hd hmax ⊢
    rw [← hm] at hd hmax2 ⊢
    clear hl hn hm hR hcell hcell2
    go_enter Tryz.func17, Tryz.ntmps17
    go_wp2_with fail
    go_ret
    exact ⟨rfl, nb_refl _⟩
theorem none_nil (w : World) : Calls Tryz.prog 24 #[.slice none 0 0, .slice none 0 0] w fun e w' => e = .returned (.bool true) ∧ w' = w := by
  go_enter Tryz.func24, Tryz.ntmps24
  go_wp2_with fail
  go_loopw [5] (fun s5 wr => s5 = .int .i64 0 ∧ wr = w) (fun _ _ => 0)
  case atStart => exact ⟨rfl, rfl⟩
  case round =>
    obtain ⟨rfl, rfl⟩ := hrel
    go_wp2_with fail
    go_ret
    exact ⟨rfl, rfl⟩
end Go.Proofs.YtmfkpmepgbjmkaaGreatDoor
