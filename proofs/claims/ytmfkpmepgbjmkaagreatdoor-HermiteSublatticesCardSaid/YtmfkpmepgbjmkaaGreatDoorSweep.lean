/-
  WALKS: hermite's sweep.
-/
import Derived.Test.YtmfkpmepgbjmkaaGreatDoorLns
set_option linter.unusedVariables false
set_option linter.unusedSimpArgs false
namespace Go.Proofs.YtmfkpmepgbjmkaaGreatDoor
open Go.RowKit

theorem bd_lt10 {F D : Nat} {l : Ln.Ln} (h : Ln.Bd F l) (hF : F < 10 ^ D) : Lt10s D l.1 ∧ Lt10s D l.2 :=
  ⟨fun x hx => Nat.lt_of_le_of_lt (h.1 x hx) hF, fun x hx => Nat.lt_of_le_of_lt (h.2 x hx) hF⟩
theorem at_lt10 {F D : Nat} {l : Ln.Ln} (h : Ln.Bd F l) (hF : F < 10 ^ D) (c : Nat) : Lt10 D (Ln.at_ c l) := Nat.lt_of_le_of_lt (h.at_ c) hF
/-- What a round knows. -/
structure Rnd (n m c F : Nat) (L0 : List Ln.Ln) (w wr : World) (B G : Nat) (P rs : List LR) : Prop where
  sw : Ln.Sw n m c F L0 (rs.map LR.ln)
  lns : Lns n m wr B G (P ++ rs)
  below : Below B w wr
  ok : GOk wr
  gb : Gb B
theorem Rnd.nb {n m c F : Nat} {L0 : List Ln.Ln} {w wr w' : World} {B G : Nat} {P rs : List LR} (h : Rnd n m c F L0 w wr B G P rs) (hb : Below wr.heap.size wr w') : Rnd n m c F L0 w w' B G P rs :=
  ⟨h.sw, h.lns.nb hb, h.below.trans (hb.mono h.lns.base), h.ok.below hb, h.gb⟩
theorem Rnd.bd {n m c F : Nat} {L0 : List Ln.Ln} {w wr : World} {B G : Nat} {P rs : List LR} (h : Rnd n m c F L0 w wr B G P rs) {r : LR} (hr : r ∈ rs) : Ln.Bd (Ln.FB F) r.ln :=
  h.sw.st.bd _ (List.mem_map.2 ⟨r, hr, rfl⟩)
theorem at_tail {P rs : List LR} {d i : Nat} {r : LR} (hd : P.length = d) (hi : rs[i]? = some r) : (P ++ rs)[d + i]? = some r := by
  subst hd
  rw [List.getElem?_append_right (by omega), Nat.add_sub_cancel_left]
  exact hi

theorem getD_ln {rs : List LR} {i : Nat} {r : LR} (h : rs[i]? = some r) : (rs.map LR.ln).getD i ([], []) = r.ln := by
  rw [List.getD_eq_getElem?_getD, List.getElem?_map, h]; rfl
theorem alloc1_0 (w : World) (a b : Value) (t : TypeId) : (w.alloc (.cells #[a, b] t)).cell? ⟨w.heap.size, 0, none⟩ = some a := by
  simp only [World.cell?, World.alloc, Array.getElem?_push, Array.size_push]
  repeat (first | rw [if_neg (by omega)] | rw [if_pos (by omega)])
  rfl
theorem Rnd.end_no {n m c F : Nat} {L0 : List Ln.Ln} {w wr : World} {B G : Nat} {P rs : List LR} (h : Rnd n m c F L0 w wr B G P rs) (h0 : ∀ l ∈ rs.map LR.ln, Ln.at_ c l = 0) : Ln.SwEnd n m c F L0 (rs.map LR.ln) false :=
  ⟨h.sw.len, h.sw.sized, h.sw.same, h.sw.st.bd, fun _ => h0, fun h => by cases h⟩
theorem scan_none {c : Nat} {L : List Ln.Ln} {t : Nat} (h : Ln.Scan c L L.length (-1) t) : ∀ l ∈ L, Ln.at_ c l = 0 := by
  have := (h.none (by omega)).2
  rwa [List.take_length] at this
theorem scan_some {c : Nat} {rs : List LR} {t bn : Nat} {s : LR} (h : Ln.Scan c (rs.map LR.ln) (rs.map LR.ln).length (bn : Int) t) (hs : rs[bn]? = some s) : Ln.Least c s.ln (rs.map LR.ln) ∧ t = Ln.nz c (rs.map LR.ln) := by
  have h1 := (h.some (by omega)).2
  have h2 := h.count
  rw [List.take_length] at h1 h2
  rw [Int.toNat_natCast, getD_ln hs] at h1
  exact ⟨h1, h2⟩
theorem swp_append {P rs : List LR} {d i j : Nat} {r s : LR} (hd : P.length = d) : swp (P ++ rs) (d + i) (d + j) r s = P ++ swp rs i j r s := by
  subst hd
  unfold swp
  rw [List.set_append_right _ _ (by omega), List.set_append_right _ _ (by omega), Nat.add_sub_cancel_left, Nat.add_sub_cancel_left]
theorem Rnd.swap {n m c F : Nat} {L0 : List Ln.Ln} {w wr : World} {B G : Nat} {P rs : List LR} (h : Rnd n m c F L0 w wr B G P rs) {d i j : Nat} {r s : LR} (hd : P.length = d) (hi : rs[i]? = some r) (hj : rs[j]? = some s)
    {a b : Nat} (ha : a = 2 * (d + i)) (hb : b = 2 * (d + j)) : Rnd n m c F L0 w (((((wr.setCell ⟨G, a, none⟩ (.slice (some ⟨s.gx, 0, none⟩) n s.cx)).setCell ⟨G, a + 1, none⟩ (.slice (some ⟨s.gb, 0, none⟩) m s.cb)).setCell ⟨G, b, none⟩ (.slice (some ⟨r.gx, 0, none⟩) n r.cx)).setCell ⟨G, b + 1, none⟩ (.slice (some ⟨r.gb, 0, none⟩) m r.cb)).drew) B G P (swp rs i j r s) := by
  subst ha
  subst hb
  have hw := h.lns.swap (at_tail hd hi) (at_tail hd hj)
  rw [swp_append hd] at hw
  have hk : Kp (· = G) wr ((((wr.setCell ⟨G, 2 * (d + i), none⟩ (.slice (some ⟨s.gx, 0, none⟩) n s.cx)).setCell ⟨G, 2 * (d + i) + 1, none⟩ (.slice (some ⟨s.gb, 0, none⟩) m s.cb)).setCell ⟨G, 2 * (d + j), none⟩ (.slice (some ⟨r.gx, 0, none⟩) n r.cx)).setCell ⟨G, 2 * (d + j) + 1, none⟩ (.slice (some ⟨r.gb, 0, none⟩) m r.cb)) :=
    (((((Kp.refl (· = G) wr).set (p := ⟨G, 2 * (d + i), none⟩) rfl _).set (p := ⟨G, 2 * (d + i) + 1, none⟩) rfl _).set (p := ⟨G, 2 * (d + j), none⟩) rfl _).set (p := ⟨G, 2 * (d + j) + 1, none⟩) rfl _)
  exact ⟨h.sw.perm ((swp_perm hi hj).symm.map _), hw.drew, (h.below.trans (h.lns.below_swap hk)).trans ((nb_drew _).mono (hw.base)), (h.ok.keep h.gb (by intro i hi; have := h.lns.low.1; omega) hk).drew, h.gb⟩
theorem swp_head {rs : List LR} {j : Nat} {r s : LR} (hi : rs[0]? = some r) (hj : rs[j]? = some s) : (swp rs 0 j r s)[0]? = some s := by
  obtain ⟨hi1, hi2⟩ := List.getElem?_eq_some_iff.1 hi
  unfold swp
  rw [List.getElem?_set]
  by_cases h : j = 0
  · subst h
    rw [hi] at hj
    cases hj
    rw [if_pos rfl, if_pos (by simpa using hi1)]
  · rw [if_neg h, List.getElem?_set, if_pos rfl, if_pos hi1]
theorem head_cons {rs : List LR} {s : LR} (h : rs[0]? = some s) : ∃ R, rs = s :: R := by
  cases rs with
  | nil => cases h
  | cons a R => simp at h; exact ⟨R, by rw [h]⟩
theorem alloc1_1 (w : World) (a b : Value) (t : TypeId) : (w.alloc (.cells #[a, b] t)).cell? ⟨w.heap.size, 1, none⟩ = some b := by
  simp only [World.cell?, World.alloc, Array.getElem?_push, Array.size_push]
  repeat (first | rw [if_neg (by omega)] | rw [if_pos (by omega)])
  rfl
theorem wdiv_fq (a b : Int) (ha : Za a) (hb : Za b) (hbz : b ≠ 0) (w : World) (hG : GOk w) :
    Calls Tryz.prog 53 #[.string (tx a), .string (tx b)] w fun e w' => e = .returned (.tuple #[.string (tx (Ln.fq a b)), .string (tx (a - b * Ln.fq a b)), .int .i64 0]) ∧ Below w.heap.size w w' := by
  refine (wdiv_any a b ha hb hbz w hG).mono ?_
  rintro e w' ⟨q, r, hf, he, hw⟩
  have hq := Ln.fq_unique hbz hf.1 hf.2
  have hr : r = a - b * q := by have := hf.1; omega
  rw [hr, hq] at he
  exact ⟨he, hw⟩
theorem natabs_za {a : Int} (h : Za a) : Za (a.natAbs : Int) := by
  have := h.nat
  unfold Za
  rw [tx_nat]
  exact this

set_option maxRecDepth 100000 in
set_option maxHeartbeats 1600000 in
theorem sweep_any (n m c F D B G d k cap : Nat) (w : World) (P rs : List LR) (hd : P.length = d) (hk : rs.length = k) (hc : c < n) (hL : Lns n m w B G (P ++ rs))
    (hF : ∀ r ∈ rs, Ln.Bd F r.ln) (hFD : Ln.FB F < 10 ^ D) (hD0 : 1 ≤ D) (hD : D ≤ 4000000000) (hG : GOk w) (hB : Gb B) (hn : n ≤ 1000) (hm : m ≤ 1000) (hk1 : k ≤ 1000) (hd1 : d ≤ 1000) (hcap : k ≤ cap) :
    Calls Tryz.prog 81 #[.slice (some ⟨G, 2 * d, none⟩) k cap, .int .i64 c] w fun e w' => ∃ f rs', e = .returned (.bool f) ∧
      Lns n m w' B G (P ++ rs') ∧ Ln.SwEnd n m c F (rs.map LR.ln) (rs'.map LR.ln) f ∧ Below B w w' ∧ GOk w' := by
  have hsz : ∀ l ∈ rs.map LR.ln, Ln.Sized n m l := by
    intro l hl
    obtain ⟨r, hr, rfl⟩ := List.mem_map.1 hl
    exact hL.size r (List.mem_append_right _ hr)
  have hbd : ∀ l ∈ rs.map LR.ln, Ln.Bd F l := by
    intro l hl
    obtain ⟨r, hr, rfl⟩ := List.mem_map.1 hl
    exact hF r hr
  have R0 : Rnd n m c F (rs.map LR.ln) w w B G P rs := ⟨Ln.Sw.start hsz hbd, hL, Below.refl _ _, hG, hB⟩
  have M0 := Lib.hid (Ln.Ms.start (c := c) hbd)
  obtain ⟨L0, hL0⟩ : ∃ L0, L0 = rs.map LR.ln := ⟨_, rfl⟩
  rw [← hL0] at R0 ⊢
  have HK := Lib.hid hk
  have HP := Lib.hid hd
  have HL0 := Lib.hid hL0
  clear hd hk hL hF hG hsz hbd hL0
  go_enter Tryz.func81, Tryz.ntmps81
  go_wp2_with fail
  go_loopg [5] (2 * F + 2) (fun q s wr => ∃ rs', rs'.length = k ∧ Ln.Ms c q (rs'.map LR.ln) ∧ Rnd n m c F L0 w wr B G P rs')
  case atStart => exact ⟨rs, HK.out, HL0.out ▸ M0.out, R0⟩
  case round =>
    obtain ⟨rs', hk', hms, hR⟩ := hrel
    have HK' := Lib.hid hk'
    have HM := Lib.hid hms
    clear M0 HL0 HK R0 hk' hms rs
    obtain ⟨rs, rfl⟩ : ∃ rs, rs = rs' := ⟨_, rfl⟩
    go_wp2_with fail
    go_loopw [5, 6, 16] (fun s5 s6 s16 wx => ∃ (i : Nat) (b : Int) (t : Nat), i ≤ k ∧ t ≤ i ∧ s5 = .int .i64 b ∧ s6 = .int .i64 t ∧ s16 = .int .i64 i ∧ Hid (Ln.Scan c (rs.map LR.ln) i b t) ∧ Below wr.heap.size wr wx) (fun _ _ s16 _ => k - (intOf s16).toNat)
    case atStart => exact ⟨0, -1, 0, Nat.zero_le _, Nat.le_refl _, rfl, rfl, rfl, Ln.Scan.start c _, nb_refl _⟩
    case round =>
      rename_i wr0
      obtain ⟨i, b, t, hi, hti, rfl, rfl, rfl, hsc, hbl⟩ := hrel
      by_cases hlt : i < k
      · obtain ⟨r, hr⟩ : ∃ r, rs[i]? = some r := ⟨rs[i]'(by have := HK'.out; omega), List.getElem?_eq_getElem _⟩
        have hR1 := hR.nb hbl
        have hat := at_tail HP.out hr
        have hx := hR1.lns.xcell hat
        have hb := hR1.lns.bcell hat
        rw [Nat.mul_add, Nat.mul_comm 2 i] at hx hb
        unfold LR.xv at hx
        unfold LR.bv at hb
        have hrm := List.mem_of_getElem? hr
        have hxc := (hR1.lns.rows r (List.mem_append_right _ hrm)).1.cell (i := c) (by rw [(hR1.lns.size r (List.mem_append_right _ hrm)).1]; exact hc)
        obtain ⟨v, hv⟩ : ∃ v, v = Ln.at_ c r.ln := ⟨_, rfl⟩
        rw [show r.x.getD c 0 = v from hv.symm] at hxc
        have HV := Lib.hid hv
        clear hv
        have hxa := fun (o : Obj) => cellB (nb_alloc wr o) hxc
        by_cases hv0 : v = 0
        · subst hv0
          have hz : ((tx 0).toList == [48]) = true := by rw [tx_eq_zero]; rfl
          have HS := Lib.hid (hsc.out.skip (by rw [List.length_map]; have := HK'.out; omega) (by rw [getD_ln hr]; exact HV.out.symm))
          go_wp2_with fail
          go_roundw
          case rel => exact ⟨i + 1, b, t, by omega, by omega, rfl, rfl, by go_num, HS, hbl.trans ((nb_alloc wr _).mono hbl.size)⟩
          case measure => (simp [intOf]) <;> omega
        · have hz : ((tx v).toList == [48]) = false := by rw [tx_eq_zero, decide_eq_false hv0]
          by_cases hbn : b < 0
          · obtain ⟨rfl, _⟩ := hsc.out.none hbn
            have HS := Lib.hid (hsc.out.take_ (by rw [List.length_map]; have := HK'.out; omega) (by rw [getD_ln hr]; rw [← HV.out]; exact hv0) (fun h => by omega))
            clear hbn
            go_wp2_with fail
            go_quiet (fail)
            go_wp2_with fail
            go_roundw
            case rel => exact ⟨i + 1, i, t + 1, by omega, by omega, rfl, by go_num, by go_num, HS, hbl.trans ((nb_trans (nb_alloc wr _) (nb_drewN _ _)).mono hbl.size)⟩
            case measure => (simp [intOf]) <;> omega
          · obtain ⟨bn, rfl⟩ : ∃ bn : Nat, b = bn := ⟨b.toNat, by omega⟩
            have hbi : bn < i := by have := (hsc.out.some (by omega)).1; omega
            obtain ⟨s, hs⟩ : ∃ s, rs[bn]? = some s := ⟨rs[bn]'(by have := HK'.out; omega), List.getElem?_eq_getElem _⟩
            have hsat := at_tail HP.out hs
            have hsx := hR1.lns.xcell hsat
            rw [Nat.mul_add, Nat.mul_comm 2 bn] at hsx
            unfold LR.xv at hsx
            have hsm := List.mem_of_getElem? hs
            have hsc' := (hR1.lns.rows s (List.mem_append_right _ hsm)).1.cell (i := c) (by rw [(hR1.lns.size s (List.mem_append_right _ hsm)).1]; exact hc)
            obtain ⟨u, hu⟩ : ∃ u, u = Ln.at_ c s.ln := ⟨_, rfl⟩
            rw [show s.x.getD c 0 = u from hu.symm] at hsc'
            have AV := Lib.hid (fun W => abs_any v ((HV.out ▸ at_lt10 (hR1.bd hrm) hFD c : Lt10 D v).za (by omega) hD0).sz W)
            have AU := Lib.hid (fun W => abs_any u ((hu ▸ at_lt10 (hR1.bd hsm) hFD c : Lt10 D u).za (by omega) hD0).sz W)
            have CP : ∃ z : Int, (z < 0 ↔ v.natAbs < u.natAbs) ∧ ∀ W, Calls Tryz.prog 122 #[.string (tn v.natAbs), .string (tn u.natAbs)] W fun e w' => e = .returned (.int .i64 z) ∧ Below W.heap.size W w' := by
              refine ⟨cmp v.natAbs u.natAbs, ?_, fun W => ?_⟩
              · unfold cmp
                split
                · omega
                · split <;> omega
              · rw [← tx_nat, ← tx_nat]
                exact wcompare_any _ _ (natabs_za ((HV.out ▸ at_lt10 (hR1.bd hrm) hFD c : Lt10 D v).za (by omega) hD0)) (natabs_za ((hu ▸ at_lt10 (hR1.bd hsm) hFD c : Lt10 D u).za (by omega) hD0)) W
            obtain ⟨z, hz1, CZ'⟩ := CP
            have CZ := Lib.hid CZ'
            have HS : Hid ((z < 0 → Ln.Scan c (rs.map LR.ln) (i + 1) i (t + 1)) ∧ (¬ z < 0 → Ln.Scan c (rs.map LR.ln) (i + 1) bn (t + 1))) := Lib.hid (by
              have e1 : (List.map LR.ln rs).getD i ([], []) = r.ln := getD_ln hr
              have e2 : (List.map LR.ln rs).getD ((bn : Int)).toNat ([], []) = s.ln := by rw [Int.toNat_natCast]; exact getD_ln hs
              constructor
              · intro hzz
                exact hsc.out.take_ (by rw [List.length_map]; have := HK'.out; omega) (by rw [e1, ← HV.out]; exact hv0) (fun _ => by rw [e1, e2, ← HV.out, ← hu]; exact hz1.1 hzz)
              · intro hzz
                exact hsc.out.keep (by rw [List.length_map]; have := HK'.out; omega) (by rw [e1, ← HV.out]; exact hv0) (by omega) (by rw [e1, e2, ← HV.out, ← hu]; exact fun h => hzz (hz1.2 h)))
            clear CZ' hz1 hu HV hbn hv0 hsat hat hxa
            obtain ⟨X, hX⟩ : ∃ X, X = tx v := ⟨_, rfl⟩
            obtain ⟨Y, hY⟩ : ∃ Y, Y = tx u := ⟨_, rfl⟩
            obtain ⟨X', hX'⟩ : ∃ X, X = tn v.natAbs := ⟨_, rfl⟩
            obtain ⟨Y', hY'⟩ : ∃ Y, Y = tn u.natAbs := ⟨_, rfl⟩
            rw [← hX] at hxc hz AV
            rw [← hY] at hsc' AU
            rw [← hX'] at AV CZ
            rw [← hY'] at AU CZ
            have hxa := fun (o : Obj) => cellB (nb_alloc wr o) hxc
            have hsa := fun (o : Obj) => cellB (nb_alloc wr o) hsc'
            have hga := fun (o : Obj) => cellB (nb_alloc wr o) hsx
            clear hX hY hX' hY' hxc hsc'
            by_cases hzz : z < 0
            · have HS1 := Lib.hid (HS.out.1 hzz)
              clear HS
              go_wp2_with fail
              have i1 : (0 : Int) ≤ (bn : Int) := by omega
              have i2 : (bn : Int) < (k : Int) := by omega
              have KS : ∀ w1 w2 : World, Below w1.heap.size w1 w2 → (fun w' => Below wr.heap.size wr w' ∧ w'.cell? ⟨wr.heap.size, 0, none⟩ = some (.slice (some ⟨r.gx, 0, none⟩) n r.cx) ∧ w'.cell? ⟨r.gx, c, none⟩ = some (.string X) ∧ w'.cell? ⟨G, 2 * d + bn * 2, none⟩ = some (.slice (some ⟨s.gx, 0, none⟩) n s.cx) ∧ w'.cell? ⟨s.gx, c, none⟩ = some (.string Y)) w1 → (fun w' => Below wr.heap.size wr w' ∧ w'.cell? ⟨wr.heap.size, 0, none⟩ = some (.slice (some ⟨r.gx, 0, none⟩) n r.cx) ∧ w'.cell? ⟨r.gx, c, none⟩ = some (.string X) ∧ w'.cell? ⟨G, 2 * d + bn * 2, none⟩ = some (.slice (some ⟨s.gx, 0, none⟩) n s.cx) ∧ w'.cell? ⟨s.gx, c, none⟩ = some (.string Y)) w2 := fun w1 w2 hb h => ⟨nb_trans h.1 hb, cellB hb h.2.1, cellB hb h.2.2.1, cellB hb h.2.2.2.1, cellB hb h.2.2.2.2⟩
              have KB : (fun w' => Below wr.heap.size wr w' ∧ w'.cell? ⟨wr.heap.size, 0, none⟩ = some (.slice (some ⟨r.gx, 0, none⟩) n r.cx) ∧ w'.cell? ⟨r.gx, c, none⟩ = some (.string X) ∧ w'.cell? ⟨G, 2 * d + bn * 2, none⟩ = some (.slice (some ⟨s.gx, 0, none⟩) n s.cx) ∧ w'.cell? ⟨s.gx, c, none⟩ = some (.string Y)) (wr.alloc (.cells #[.slice (some ⟨r.gx, 0, none⟩) n r.cx, .slice (some ⟨r.gb, 0, none⟩) m r.cb] 90)) := ⟨nb_alloc _ _, alloc1_0 _ _ _ _, hxa _, hga _, hsa _⟩
              go_region_held3 (fun w' => Below wr.heap.size wr w' ∧ w'.cell? ⟨wr.heap.size, 0, none⟩ = some (.slice (some ⟨r.gx, 0, none⟩) n r.cx) ∧ w'.cell? ⟨r.gx, c, none⟩ = some (.string X) ∧ w'.cell? ⟨G, 2 * d + bn * 2, none⟩ = some (.slice (some ⟨s.gx, 0, none⟩) n s.cx) ∧ w'.cell? ⟨s.gx, c, none⟩ = some (.string Y))
                (first | exact KS _ _ hb3 (by assumption) | exact KS _ _ hb2 (by assumption) | exact KS _ _ hb1 (by assumption) | exact KS _ _ (nb_drew _) KB)
                (first | (go_at_call 123; with_reducible refine (AV.out _).mono ?_; rintro e w1 ⟨rfl, hb1⟩) | (go_at_call 123; with_reducible refine (AU.out _).mono ?_; rintro e w1 ⟨rfl, hb2⟩) | (go_at_call 122; refine (CZ.out _).mono ?_; rintro e w2 ⟨rfl, hb3⟩))
              all_goals
                have hbw := ((by assumption : (fun w' => Below wr.heap.size wr w' ∧ w'.cell? ⟨wr.heap.size, 0, none⟩ = some (.slice (some ⟨r.gx, 0, none⟩) n r.cx) ∧ w'.cell? ⟨r.gx, c, none⟩ = some (.string X) ∧ w'.cell? ⟨G, 2 * d + bn * 2, none⟩ = some (.slice (some ⟨s.gx, 0, none⟩) n s.cx) ∧ w'.cell? ⟨s.gx, c, none⟩ = some (.string Y)) w2)).1
                clear hb1 hb2 hb3
                go_wp2_with fail
                go_roundw
                case rel => exact ⟨i + 1, i, t + 1, by omega, by omega, rfl, rfl, by go_num, HS1, hbl.trans (hbw.mono hbl.size)⟩
                case measure => (simp [intOf]) <;> omega
            · have HS1 := Lib.hid (HS.out.2 hzz)
              clear HS
              go_wp2_with fail
              have i1 : (0 : Int) ≤ (bn : Int) := by omega
              have i2 : (bn : Int) < (k : Int) := by omega
              have KS : ∀ w1 w2 : World, Below w1.heap.size w1 w2 → (fun w' => Below wr.heap.size wr w' ∧ w'.cell? ⟨wr.heap.size, 0, none⟩ = some (.slice (some ⟨r.gx, 0, none⟩) n r.cx) ∧ w'.cell? ⟨r.gx, c, none⟩ = some (.string X) ∧ w'.cell? ⟨G, 2 * d + bn * 2, none⟩ = some (.slice (some ⟨s.gx, 0, none⟩) n s.cx) ∧ w'.cell? ⟨s.gx, c, none⟩ = some (.string Y)) w1 → (fun w' => Below wr.heap.size wr w' ∧ w'.cell? ⟨wr.heap.size, 0, none⟩ = some (.slice (some ⟨r.gx, 0, none⟩) n r.cx) ∧ w'.cell? ⟨r.gx, c, none⟩ = some (.string X) ∧ w'.cell? ⟨G, 2 * d + bn * 2, none⟩ = some (.slice (some ⟨s.gx, 0, none⟩) n s.cx) ∧ w'.cell? ⟨s.gx, c, none⟩ = some (.string Y)) w2 := fun w1 w2 hb h => ⟨nb_trans h.1 hb, cellB hb h.2.1, cellB hb h.2.2.1, cellB hb h.2.2.2.1, cellB hb h.2.2.2.2⟩
              have KB : (fun w' => Below wr.heap.size wr w' ∧ w'.cell? ⟨wr.heap.size, 0, none⟩ = some (.slice (some ⟨r.gx, 0, none⟩) n r.cx) ∧ w'.cell? ⟨r.gx, c, none⟩ = some (.string X) ∧ w'.cell? ⟨G, 2 * d + bn * 2, none⟩ = some (.slice (some ⟨s.gx, 0, none⟩) n s.cx) ∧ w'.cell? ⟨s.gx, c, none⟩ = some (.string Y)) (wr.alloc (.cells #[.slice (some ⟨r.gx, 0, none⟩) n r.cx, .slice (some ⟨r.gb, 0, none⟩) m r.cb] 90)) := ⟨nb_alloc _ _, alloc1_0 _ _ _ _, hxa _, hga _, hsa _⟩
              go_region_held3 (fun w' => Below wr.heap.size wr w' ∧ w'.cell? ⟨wr.heap.size, 0, none⟩ = some (.slice (some ⟨r.gx, 0, none⟩) n r.cx) ∧ w'.cell? ⟨r.gx, c, none⟩ = some (.string X) ∧ w'.cell? ⟨G, 2 * d + bn * 2, none⟩ = some (.slice (some ⟨s.gx, 0, none⟩) n s.cx) ∧ w'.cell? ⟨s.gx, c, none⟩ = some (.string Y))
                (first | exact KS _ _ hb3 (by assumption) | exact KS _ _ hb2 (by assumption) | exact KS _ _ hb1 (by assumption) | exact KS _ _ (nb_drew _) KB)
                (first | (go_at_call 123; with_reducible refine (AV.out _).mono ?_; rintro e w1 ⟨rfl, hb1⟩) | (go_at_call 123; with_reducible refine (AU.out _).mono ?_; rintro e w1 ⟨rfl, hb2⟩) | (go_at_call 122; refine (CZ.out _).mono ?_; rintro e w2 ⟨rfl, hb3⟩))
              all_goals
                have hbw := ((by assumption : (fun w' => Below wr.heap.size wr w' ∧ w'.cell? ⟨wr.heap.size, 0, none⟩ = some (.slice (some ⟨r.gx, 0, none⟩) n r.cx) ∧ w'.cell? ⟨r.gx, c, none⟩ = some (.string X) ∧ w'.cell? ⟨G, 2 * d + bn * 2, none⟩ = some (.slice (some ⟨s.gx, 0, none⟩) n s.cx) ∧ w'.cell? ⟨s.gx, c, none⟩ = some (.string Y)) w2)).1
                clear hb1 hb2 hb3
                go_wp2_with fail
                go_roundw
                case rel => exact ⟨i + 1, bn, t + 1, by omega, by omega, rfl, rfl, by go_num, HS1, hbl.trans (hbw.mono hbl.size)⟩
                case measure => (simp [intOf]) <;> omega
      · obtain rfl : i = k := by omega
        clear hlt
        have hR1 := hR.nb hbl
        have HSc : Hid (Ln.Scan c (rs.map LR.ln) (rs.map LR.ln).length b t) := Lib.hid (by rw [List.length_map, HK'.out]; exact hsc.out)
        by_cases hbn : b < 0
        · obtain ⟨rfl, _⟩ := hsc.out.none hbn
          have HN := Lib.hid (scan_none HSc.out)
          clear hbn
          go_wp2_with fail
          go_ret
          exact ⟨false, rs, rfl, hR1.lns, hR1.end_no HN.out, hR1.below, hR1.ok⟩
        · obtain ⟨bn, rfl⟩ : ∃ bn : Nat, b = bn := ⟨b.toNat, by omega⟩
          have hbi : bn < i := by have := (hsc.out.some (by omega)).1; omega
          obtain ⟨s, hs⟩ : ∃ s, rs[bn]? = some s := ⟨rs[bn]'(by have := HK'.out; omega), List.getElem?_eq_getElem _⟩
          obtain ⟨r0, hr0⟩ : ∃ r0, rs[0]? = some r0 := ⟨rs[0]'(by have := HK'.out; omega), List.getElem?_eq_getElem _⟩
          have HLe := Lib.hid (scan_some HSc.out hs)
          have hsat := at_tail HP.out hs
          have hrat := at_tail HP.out hr0
          have g1 := hR1.lns.xcell hsat
          have g2 := hR1.lns.bcell hsat
          have g3 := hR1.lns.xcell hrat
          have g4 := hR1.lns.bcell hrat
          have HRW := Lib.hid (hR1.swap HP.out hr0 hs (a := 2 * d) (b := 2 * d + bn * 2) (by omega) (by omega))
          rw [Nat.mul_add, Nat.mul_comm 2 bn] at g1 g2
          rw [Nat.add_zero d] at g3 g4
          have f1 := hR1.lns.frozen
          unfold LR.xv at g1 g3
          unfold LR.bv at g2 g4
          have i1 : (0 : Int) ≤ (bn : Int) := by omega
          have i2 : (bn : Int) < (i : Int) := by omega
          have i3 : 0 < i := by omega
          have f2 : ∀ j, wr.drew.frozen? ⟨G, j, none⟩ = false := f1
          clear hbn hsc
          go_wp2_with fail
          go_upto_region 12 with fail
          go_cut [54] (fun _ wx => Rnd n m c F L0 w wx B G P (swp rs 0 bn r0 s))
          case first =>
            by_cases hb0 : bn = 0
            · obtain rfl := hb0
              obtain rfl : r0 = s := by rw [hs] at hr0; cases hr0; rfl
              rw [Nat.zero_mul, Nat.add_zero (2 * d)] at HRW
              rw [Nat.zero_mul, Nat.add_zero (2 * d)] at g1 g2
              go_region
              go_wp2_with fail
              go_meet
              exact HRW.out
            · have hb1 : 0 < bn := by omega
              go_region
              go_wp2_with fail
              go_meet
              exact HRW.out
          case rest =>
            obtain ⟨R, hRs⟩ : ∃ R, swp rs 0 bn r0 s = s :: R := head_cons (swp_head hr0 hs)
            have hpm : ((s :: R).map LR.ln).Perm (rs.map LR.ln) := by rw [← hRs]; exact (swp_perm hr0 hs).map _
            have HL2 : Hid (Ln.Least c s.ln ((s :: R).map LR.ln) ∧ t = Ln.nz c ((s :: R).map LR.ln) ∧ Ln.Ms c gk ((s :: R).map LR.ln)) := Lib.hid ⟨HLe.out.1.perm hpm.symm, HLe.out.2.trans (Ln.nz_perm hpm.symm), HM.out.perm hpm.symm⟩
            have HLen : Hid (R.length + 1 = i) := Lib.hid (by have := hpm.length_eq; simp only [List.length_map, List.length_cons, HK'.out] at this; exact this)
            rw [hRs] at hcut
            clear hRs hpm hs hr0 hsat hrat g1 g2 g3 g4 f1 f2 HM HLe HK' hR1 hR HSc hbl HRW
            by_cases ht1 : t = 1
            · subst ht1
              go_wp2_with fail
              go_ret
              refine ⟨true, s :: R, rfl, hcut.lns, ⟨hcut.sw.len, hcut.sw.sized, hcut.sw.same, hcut.sw.st.bd, (fun h => by cases h), fun _ => ⟨s.ln, R.map LR.ln, rfl, HL2.out.1.1, ?_⟩⟩, hcut.below, hcut.ok⟩
              have h2 := HL2.out.2.1
              rw [List.map_cons, Ln.nz_cons _ HL2.out.1.1] at h2
              exact Ln.zero_of_nz (by omega)
            · have HT := Lib.hid ht1
              have ht2 : ((t : Int) == 1) = false := by rw [beq_eq_false_iff_ne]; omega
              clear ht1
              have h2 : 2 ≤ i := by
                have h3 := HL2.out.2.1
                rw [List.map_cons, Ln.nz_cons _ HL2.out.1.1] at h3
                have := HT.out
                omega
              have i4 : (1 : Int) ≤ (i : Int) := by omega
              have i5 : ¬ cap = 1 := by omega
              have i6 : (i : Int) ≤ (cap : Int) := by omega
              have HB : ∀ r ∈ s :: R, Ln.Bd (Ln.FB F) r.ln := fun r hr => hcut.bd hr
              have E0 : Hid (∀ l ∈ (s :: R).map LR.ln, Ln.Sized n m l) := Lib.hid hcut.sw.sized
              have R0 : Lns n m wc B G (P ++ s :: part c s 0 R) := by rw [part_zero]; exact hcut.lns
              have HC := Lib.hid hcut
              have b0 := hcut.below
              have ok0 := hcut.ok
              clear hcut
              go_wp2_with fail
              go_loopw [71] (fun s71 wx => ∃ j : Nat, j + 1 ≤ i ∧ s71 = .int .i64 j ∧ Lns n m wx B G (P ++ s :: part c s j R) ∧ Below B w wx ∧ GOk wx) (fun s71 _ => i - (intOf s71).toNat)
              case atStart => exact ⟨0, by omega, rfl, R0, b0, ok0⟩
              case round =>
                rename_i wq
                clear R0 b0 ok0
                obtain ⟨j, hj, rfl, hl, hbl, hok⟩ := hrel
                by_cases hji : j + 1 < i
                · obtain ⟨q, hq⟩ : ∃ q, R[j]? = some q := ⟨R[j]'(by have := HLen.out; omega), List.getElem?_eq_getElem _⟩
                  have hqp := part_at c s j R hq
                  have hqm := List.mem_of_getElem? hq
                  have hq1 : (s :: part c s j R)[1 + j]? = some q := by rw [Nat.add_comm, List.getElem?_cons_succ]; exact hqp
                  have hqa := at_tail HP.out hq1
                  have hsa := at_tail (i := 0) (rs := s :: part c s j R) HP.out rfl
                  have g1 := hl.xcell hqa
                  have g2 := hl.bcell hqa
                  have g3 := hl.xcell hsa
                  have g4 := hl.bcell hsa
                  rw [show 2 * (d + (1 + j)) = 2 * d + 2 + j * 2 by omega] at g1 g2
                  rw [Nat.add_zero d] at g3 g4
                  unfold LR.xv at g1 g3
                  unfold LR.bv at g2 g4
                  have hqM := List.mem_of_getElem? hqa
                  have hsM := List.mem_of_getElem? hsa
                  have hqr := hl.rows q hqM
                  have hsr := hl.rows s hsM
                  have hqs := hl.size q hqM
                  have hss := hl.size s hsM
                  have hqo := hl.own q hqM
                  have hso := hl.own s hsM
                  have hap := hl.apart_at hqa hsa (by omega)
                  have hql := hl.low.2 q hqM
                  have hlg := hl.low.1
                  have hltG := hl.lt
                  have hltq := hqr.1.lt
                  have hltqb := hqr.2.lt
                  have gx1 := hqr.1.cell (i := c) (by rw [hqs.1]; exact hc)
                  have gx2 := hsr.1.cell (i := c) (by rw [hss.1]; exact hc)
                  obtain ⟨v, hv⟩ : ∃ v, v = Ln.at_ c q.ln := ⟨_, rfl⟩
                  obtain ⟨u, hu⟩ : ∃ u, u = Ln.at_ c s.ln := ⟨_, rfl⟩
                  rw [show q.x.getD c 0 = v from hv.symm] at gx1
                  rw [show s.x.getD c 0 = u from hu.symm] at gx2
                  have hbq := HB q (List.mem_cons_of_mem _ hqm)
                  have hbs := HB s (List.mem_cons_self ..)
                  have hu0 : u ≠ 0 := by rw [hu]; exact HL2.out.1.1
                  have lv : Lt10 D v := hv ▸ at_lt10 hbq hFD c
                  have lu : Lt10 D u := hu ▸ at_lt10 hbs hFD c
                  have lk : Lt10 D (Ln.fq v u) := Nat.lt_of_le_of_lt (Ln.fq_abs hu0) lv
                  obtain ⟨kk, hkk⟩ : ∃ kk, kk = Ln.fq v u := ⟨_, rfl⟩
                  rw [← hkk] at lk
                  obtain ⟨zz, hzz⟩ : ∃ zz, zz = v - u * kk := ⟨_, rfl⟩
                  have WD := Lib.hid (fun W (hg : GOk W) => wdiv_fq v u (lv.za (by omega) hD0) (lu.za (by omega) hD0) hu0 W hg)
                  rw [← hkk, ← hzz] at WD
                  have LS : Hid (∀ W : World, Lns n m W B G (P ++ s :: part c s j R) → GOk W → Calls Tryz.prog 84 #[.agg #[.slice (some ⟨q.gx, 0, none⟩) n q.cx, .slice (some ⟨q.gb, 0, none⟩) m q.cb], .string (tx kk), .agg #[.slice (some ⟨s.gx, 0, none⟩) n s.cx, .slice (some ⟨s.gb, 0, none⟩) m s.cb]] W fun e w' => e = .returned (.tuple #[]) ∧
                      Lns n m w' B G (P ++ s :: part c s (j + 1) R) ∧ Below B W w' ∧ GOk w' ∧ Kp (fun i => i = q.gx ∨ i = q.gb) W w') := Lib.hid (fun W hW hg => by
                    have t1 := bd_lt10 hbq hFD
                    have t2 := bd_lt10 hbs hFD
                    refine (less_any W B q.gx q.gb s.gx s.gb q.cx q.cb s.cx s.cb n m D kk q.x s.x q.b s.b hqs.1 hss.1 hqs.2 hss.2 hg hB hql.1 hql.2 (hW.rows q hqM).1 (hW.rows s hsM).1 (hW.rows q hqM).2 (hW.rows s hsM).2
                      hap.1 hap.2.2.2 hqo.1 hap.2.1 hap.2.2.1 hn hm t1.1 t2.1 t1.2 t2.2 lk hD0 hD).mono ?_
                    rintro e w' ⟨he, hr1, hr2, hk⟩
                    refine ⟨he, ?_, hW.below_write hqM hk, hg.keep hB (by intro i hi; omega) hk, hk⟩
                    have hw := hW.write hqa hr1 hr2 (by rw [subL_len (hqs.1.trans hss.1.symm), hqs.1]) (by rw [subL_len (hqs.2.trans hss.2.symm), hqs.2]) hk
                    have e2 : (P ++ s :: part c s j R).set (d + (1 + j)) { q with x := subL kk q.x s.x, b := subL kk q.b s.b } = P ++ s :: part c s (j + 1) R := by
                      rw [← part_step c s j R hq, List.set_append_right _ _ (by have := HP.out; omega)]
                      have e3 : d + (1 + j) - P.length = j + 1 := by have := HP.out; omega
                      rw [e3, List.set_cons_succ]
                      congr 3
                      unfold LR.red
                      rw [← hv, ← hu, ← hkk]
                    rw [e2] at hw
                    exact hw)
                  clear hv hu hkk hzz hqm hqp hq1 hqa hsa hqM hsM hqr hsr hqs hss hbq hbs hu0 lv lu lk
                  obtain ⟨X, hX⟩ : ∃ X, X = tx v := ⟨_, rfl⟩
                  obtain ⟨Y, hY⟩ : ∃ Y, Y = tx u := ⟨_, rfl⟩
                  obtain ⟨Z, hZ⟩ : ∃ Z, Z = tx kk := ⟨_, rfl⟩
                  obtain ⟨Z', hZ'⟩ : ∃ Z, Z = tx zz := ⟨_, rfl⟩
                  rw [← hX] at gx1 WD
                  rw [← hY] at gx2 WD
                  rw [← hZ] at WD LS
                  rw [← hZ'] at WD
                  clear hX hY hZ hZ'
                  have KS : ∀ w1 w2 : World, Below w1.heap.size w1 w2 → (fun w' => Below wr.heap.size wr w' ∧ GOk w' ∧ Lns n m w' B G (P ++ s :: part c s j R) ∧ w'.cell? ⟨wr.heap.size, 0, none⟩ = some (.slice (some ⟨q.gx, 0, none⟩) n q.cx) ∧ w'.cell? ⟨wr.heap.size, 1, none⟩ = some (.slice (some ⟨q.gb, 0, none⟩) m q.cb) ∧ w'.cell? ⟨q.gx, c, none⟩ = some (.string X) ∧ w'.cell? ⟨s.gx, c, none⟩ = some (.string Y) ∧ w'.cell? ⟨G, 2 * d, none⟩ = some (.slice (some ⟨s.gx, 0, none⟩) n s.cx) ∧ w'.cell? ⟨G, 2 * d + 1, none⟩ = some (.slice (some ⟨s.gb, 0, none⟩) m s.cb)) w1 → (fun w' => Below wr.heap.size wr w' ∧ GOk w' ∧ Lns n m w' B G (P ++ s :: part c s j R) ∧ w'.cell? ⟨wr.heap.size, 0, none⟩ = some (.slice (some ⟨q.gx, 0, none⟩) n q.cx) ∧ w'.cell? ⟨wr.heap.size, 1, none⟩ = some (.slice (some ⟨q.gb, 0, none⟩) m q.cb) ∧ w'.cell? ⟨q.gx, c, none⟩ = some (.string X) ∧ w'.cell? ⟨s.gx, c, none⟩ = some (.string Y) ∧ w'.cell? ⟨G, 2 * d, none⟩ = some (.slice (some ⟨s.gx, 0, none⟩) n s.cx) ∧ w'.cell? ⟨G, 2 * d + 1, none⟩ = some (.slice (some ⟨s.gb, 0, none⟩) m s.cb)) w2 := fun w1 w2 hb h => ⟨nb_trans h.1 hb, h.2.1.below hb, h.2.2.1.nb hb, cellB hb h.2.2.2.1, cellB hb h.2.2.2.2.1, cellB hb h.2.2.2.2.2.1, cellB hb h.2.2.2.2.2.2.1, cellB hb h.2.2.2.2.2.2.2.1, cellB hb h.2.2.2.2.2.2.2.2⟩
                  have KB : (fun w' => Below wr.heap.size wr w' ∧ GOk w' ∧ Lns n m w' B G (P ++ s :: part c s j R) ∧ w'.cell? ⟨wr.heap.size, 0, none⟩ = some (.slice (some ⟨q.gx, 0, none⟩) n q.cx) ∧ w'.cell? ⟨wr.heap.size, 1, none⟩ = some (.slice (some ⟨q.gb, 0, none⟩) m q.cb) ∧ w'.cell? ⟨q.gx, c, none⟩ = some (.string X) ∧ w'.cell? ⟨s.gx, c, none⟩ = some (.string Y) ∧ w'.cell? ⟨G, 2 * d, none⟩ = some (.slice (some ⟨s.gx, 0, none⟩) n s.cx) ∧ w'.cell? ⟨G, 2 * d + 1, none⟩ = some (.slice (some ⟨s.gb, 0, none⟩) m s.cb)) (wr.alloc (.cells #[.slice (some ⟨q.gx, 0, none⟩) n q.cx, .slice (some ⟨q.gb, 0, none⟩) m q.cb] 90)) :=
                    ⟨nb_alloc _ _, hok.below (nb_alloc _ _), hl.nb (nb_alloc _ _), alloc1_0 _ _ _ _, alloc1_1 _ _ _ _, cellB (nb_alloc _ _) gx1, cellB (nb_alloc _ _) gx2, cellB (nb_alloc _ _) g3, cellB (nb_alloc _ _) g4⟩
                  go_wp2_with fail
                  go_region_held3 (fun w' => Below wr.heap.size wr w' ∧ GOk w' ∧ Lns n m w' B G (P ++ s :: part c s j R) ∧ w'.cell? ⟨wr.heap.size, 0, none⟩ = some (.slice (some ⟨q.gx, 0, none⟩) n q.cx) ∧ w'.cell? ⟨wr.heap.size, 1, none⟩ = some (.slice (some ⟨q.gb, 0, none⟩) m q.cb) ∧ w'.cell? ⟨q.gx, c, none⟩ = some (.string X) ∧ w'.cell? ⟨s.gx, c, none⟩ = some (.string Y) ∧ w'.cell? ⟨G, 2 * d, none⟩ = some (.slice (some ⟨s.gx, 0, none⟩) n s.cx) ∧ w'.cell? ⟨G, 2 * d + 1, none⟩ = some (.slice (some ⟨s.gb, 0, none⟩) m s.cb))
                    (first | exact KS _ _ hb1 (by assumption) | exact KS _ _ (nb_drew _) KB)
                    (first | (go_at_call 53; refine (WD.out _ (And.left (And.right (by assumption : (fun w' => Below wr.heap.size wr w' ∧ GOk w' ∧ Lns n m w' B G (P ++ s :: part c s j R) ∧ w'.cell? ⟨wr.heap.size, 0, none⟩ = some (.slice (some ⟨q.gx, 0, none⟩) n q.cx) ∧ w'.cell? ⟨wr.heap.size, 1, none⟩ = some (.slice (some ⟨q.gb, 0, none⟩) m q.cb) ∧ w'.cell? ⟨q.gx, c, none⟩ = some (.string X) ∧ w'.cell? ⟨s.gx, c, none⟩ = some (.string Y) ∧ w'.cell? ⟨G, 2 * d, none⟩ = some (.slice (some ⟨s.gx, 0, none⟩) n s.cx) ∧ w'.cell? ⟨G, 2 * d + 1, none⟩ = some (.slice (some ⟨s.gb, 0, none⟩) m s.cb)) _)))).mono ?_; rintro e w1 ⟨rfl, hb1⟩))
                  have H18 : (fun w' => Below wr.heap.size wr w' ∧ GOk w' ∧ Lns n m w' B G (P ++ s :: part c s j R) ∧ w'.cell? ⟨wr.heap.size, 0, none⟩ = some (.slice (some ⟨q.gx, 0, none⟩) n q.cx) ∧ w'.cell? ⟨wr.heap.size, 1, none⟩ = some (.slice (some ⟨q.gb, 0, none⟩) m q.cb) ∧ w'.cell? ⟨q.gx, c, none⟩ = some (.string X) ∧ w'.cell? ⟨s.gx, c, none⟩ = some (.string Y) ∧ w'.cell? ⟨G, 2 * d, none⟩ = some (.slice (some ⟨s.gx, 0, none⟩) n s.cx) ∧ w'.cell? ⟨G, 2 * d + 1, none⟩ = some (.slice (some ⟨s.gb, 0, none⟩) m s.cb)) w1 := by assumption
                  obtain ⟨k0, k1, k2, k3, k4, -, -, k5, k6⟩ := H18
                  clear KS KB hb1
                  have i7 : (0 : Int) < (i : Int) := by omega
                  have hne : ¬ wr.heap.size = q.gx ∧ ¬ wr.heap.size = q.gb ∧ ¬ G = q.gx ∧ ¬ G = q.gb := ⟨by omega, by omega, fun h => hqo.2.1 h.symm, fun h => hqo.2.2 h.symm⟩
                  have HNE := Lib.hid hne
                  clear hne hap hqo hso
                  go_wp2_with fail
                  go_region_held3 (fun w' => w'.cell? ⟨wr.heap.size, 0, none⟩ = some (.slice (some ⟨q.gx, 0, none⟩) n q.cx) ∧ w'.cell? ⟨wr.heap.size, 1, none⟩ = some (.slice (some ⟨q.gb, 0, none⟩) m q.cb) ∧ w'.cell? ⟨G, 2 * d, none⟩ = some (.slice (some ⟨s.gx, 0, none⟩) n s.cx) ∧ w'.cell? ⟨G, 2 * d + 1, none⟩ = some (.slice (some ⟨s.gb, 0, none⟩) m s.cb))
                    (first | exact ⟨(hkk2.cell (cellB (nb_drew _) k3) (by have := HNE.out; show ¬ (wr.heap.size = _ ∨ wr.heap.size = _); omega)), (hkk2.cell (cellB (nb_drew _) k4) (by have := HNE.out; show ¬ (wr.heap.size = _ ∨ wr.heap.size = _); omega)), (hkk2.cell (cellB (nb_drew _) k5) (by have := HNE.out; show ¬ (G = _ ∨ G = _); omega)), (hkk2.cell (cellB (nb_drew _) k6) (by have := HNE.out; show ¬ (G = _ ∨ G = _); omega))⟩ | exact ⟨cellB (nb_drew _) k3, cellB (nb_drew _) k4, cellB (nb_drew _) k5, cellB (nb_drew _) k6⟩)
                    (first | (go_at_call 84; refine (LS.out _ k2.drew k1.drew).mono ?_; rintro e w2 ⟨rfl, hl2, hb2, hg2, hkk2⟩))
                  have hbB := hl.base
                  have hlw := k2.base
                  clear k3 k4 k5 k6 g1 g2 g3 g4 gx1 gx2 hltG hltq hltqb hql hlg hl
                  have HBL := Lib.hid (((hbl.trans (k0.mono hbB)).trans ((nb_drew w1).mono hlw)).trans hb2)
                  clear k0 k1 k2 hbB hlw
                  go_wp2_with fail
                  go_roundw
                  case rel => exact ⟨j + 1, by omega, by go_num, hl2, HBL.out, hg2⟩
                  case measure => (simp [intOf]) <;> omega
                · obtain rfl : i = j + 1 := by omega
                  have e := part_all c s R
                  obtain rfl : R.length = j := by have := HLen.out; omega
                  rw [e] at hl
                  have e2 : (s :: R.map (LR.red c s)).map LR.ln = s.ln :: (R.map LR.ln).map (Ln.lessq c s.ln) := by
                    rw [List.map_cons, List.map_map, List.map_map]; rfl
                  have hL2 : Ln.Least c s.ln (s.ln :: R.map LR.ln) := HL2.out.1
                  have hn1 : Ln.nz c (s.ln :: R.map LR.ln) ≠ 1 := by
                    have := HL2.out.2.1
                    rw [List.map_cons] at this
                    rw [← this]
                    exact HT.out
                  have hsz := E0.out
                  rw [List.map_cons] at hsz
                  obtain ⟨k', hk', hms'⟩ := Ln.Ms.round (k := gk) (hsz s.ln (List.mem_cons_self ..)) (fun r hr => hsz r (List.mem_cons_of_mem _ hr)) hL2 hn1 (by have := HL2.out.2.2; rwa [List.map_cons] at this)
                  have hsw := HC.out.sw
                  rw [List.map_cons] at hsw
                  have hsw' := hsw.round hc hL2 hn1
                  rw [← e2] at hms' hsw'
                  have HMS := Lib.hid (And.intro hms' hsw')
                  have hk2 : (s :: R.map (LR.red c s)).length = R.length + 1 := by simp
                  have HK2 := Lib.hid hk2
                  clear e e2 hL2 hn1 hsz hms' hsw hsw' hk2
                  go_wp2_with fail
                  go_roundg k'
                  case measure => exact hk'
                  case rel => exact ⟨s :: R.map (LR.red c s), HK2.out, HMS.out.1, ⟨HMS.out.2, hl, hbl, hok, hB⟩⟩
end Go.Proofs.YtmfkpmepgbjmkaaGreatDoor
