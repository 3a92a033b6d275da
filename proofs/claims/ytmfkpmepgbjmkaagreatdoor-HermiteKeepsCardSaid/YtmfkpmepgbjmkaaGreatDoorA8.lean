/-
  WALKS: hermite's sweep.
  WALKS: hermite's echelon.
  WALKS: slices.Repeat of a row with one element.
-/
import Derived.Test.YtmfkpmepgbjmkaaGreatDoorA7
import Derived.Laws.CopyOwn
set_option linter.unusedVariables false
set_option linter.unusedSimpArgs false
namespace Go.Proofs.YtmfkpmepgbjmkaaGreatDoor
open Go.RowKit

theorem bd_lt10 {F D : Nat} {l : Ln.Ln} (h : Ln.Bd F l) (hF : F < 10 ^ D) : Lt10s D l.1 ∧ Lt10s D l.2 :=
  ⟨fun x hx => Nat.lt_of_le_of_lt (h.1 x hx) hF, fun x hx => Nat.lt_of_le_of_lt (h.2 x hx) hF⟩
theorem at_lt10 {F D : Nat} {l : Ln.Ln} (h : Ln.Bd F l) (hF : F < 10 ^ D) (c : Nat) : Lt10 D (Ln.at_ c l) := Nat.lt_of_le_of_lt (h.at_ c) hF
/-- What a round knows. -/
structure Rnd (n m c F : Nat) (L0 : List Ln.Ln) (w wr : World) (B G : Nat) (P rs : List LR) : Prop where
  sw : Ln.Sw n m c F L0 (rs.map LR.ln)
  lns : Lns n m wr B G (P ++ rs)
  below : Below B w wr
  ok : GOk wr
  gb : Gb B
theorem Rnd.nb {n m c F : Nat} {L0 : List Ln.Ln} {w wr w' : World} {B G : Nat} {P rs : List LR} (h : Rnd n m c F L0 w wr B G P rs) (hb : Below wr.heap.size wr w') : Rnd n m c F L0 w w' B G P rs :=
  ⟨h.sw, h.lns.nb hb, h.below.trans (hb.mono h.lns.base), h.ok.below hb, h.gb⟩
theorem Rnd.bd {n m c F : Nat} {L0 : List Ln.Ln} {w wr : World} {B G : Nat} {P rs : List LR} (h : Rnd n m c F L0 w wr B G P rs) {r : LR} (hr : r ∈ rs) : Ln.Bd (Ln.FB F) r.ln :=
  h.sw.st.bd _ (List.mem_map.2 ⟨r, hr, rfl⟩)
theorem at_tail {P rs : List LR} {d i : Nat} {r : LR} (hd : P.length = d) (hi : rs[i]? = some r) : (P ++ rs)[d + i]? = some r := by
  subst hd
  rw [List.getElem?_append_right (by omega), Nat.add_sub_cancel_left]
  exact hi

theorem getD_ln {rs : List LR} {i : Nat} {r : LR} (h : rs[i]? = some r) : (rs.map LR.ln).getD i ([], []) = r.ln := by
  rw [List.getD_eq_getElem?_getD, List.getElem?_map, h]; rfl
theorem alloc1_0 (w : World) (a b : Value) (t : TypeId) : (w.alloc (.cells #[a, b] t)).cell? ⟨w.heap.size, 0, none⟩ = some a := by
  simp only [World.cell?, World.alloc, Array.getElem?_push, Array.size_push]
  repeat (first | rw [if_neg (by omega)] | rw [if_pos (by omega)])
  rfl
theorem Rnd.end_no {n m c F : Nat} {L0 : List Ln.Ln} {w wr : World} {B G : Nat} {P rs : List LR} (h : Rnd n m c F L0 w wr B G P rs) (h0 : ∀ l ∈ rs.map LR.ln, Ln.at_ c l = 0) : Ln.SwEnd n m c F L0 (rs.map LR.ln) false :=
  ⟨h.sw.len, h.sw.sized, h.sw.same, h.sw.st.bd, fun _ => h0, fun h => by cases h⟩
theorem scan_none {c : Nat} {L : List Ln.Ln} {t : Nat} (h : Ln.Scan c L L.length (-1) t) : ∀ l ∈ L, Ln.at_ c l = 0 := by
  have := (h.none (by omega)).2
  rwa [List.take_length] at this
theorem scan_some {c : Nat} {rs : List LR} {t bn : Nat} {s : LR} (h : Ln.Scan c (rs.map LR.ln) (rs.map LR.ln).length (bn : Int) t) (hs : rs[bn]? = some s) : Ln.Least c s.ln (rs.map LR.ln) ∧ t = Ln.nz c (rs.map LR.ln) := by
  have h1 := (h.some (by omega)).2
  have h2 := h.count
  rw [List.take_length] at h1 h2
  rw [Int.toNat_natCast, getD_ln hs] at h1
  exact ⟨h1, h2⟩
theorem swp_append {P rs : List LR} {d i j : Nat} {r s : LR} (hd : P.length = d) : swp (P ++ rs) (d + i) (d + j) r s = P ++ swp rs i j r s := by
  subst hd
  unfold swp
  rw [List.set_append_right _ _ (by omega), List.set_append_right _ _ (by omega), Nat.add_sub_cancel_left, Nat.add_sub_cancel_left]
theorem Rnd.swap {n m c F : Nat} {L0 : List Ln.Ln} {w wr : World} {B G : Nat} {P rs : List LR} (h : Rnd n m c F L0 w wr B G P rs) {d i j : Nat} {r s : LR} (hd : P.length = d) (hi : rs[i]? = some r) (hj : rs[j]? = some s)
    {a b : Nat} (ha : a = 2 * (d + i)) (hb : b = 2 * (d + j)) : Rnd n m c F L0 w (((((wr.setCell ⟨G, a, none⟩ (.slice (some ⟨s.gx, 0, none⟩) n s.cx)).setCell ⟨G, a + 1, none⟩ (.slice (some ⟨s.gb, 0, none⟩) m s.cb)).setCell ⟨G, b, none⟩ (.slice (some ⟨r.gx, 0, none⟩) n r.cx)).setCell ⟨G, b + 1, none⟩ (.slice (some ⟨r.gb, 0, none⟩) m r.cb)).drew) B G P (swp rs i j r s) := by
  subst ha
  subst hb
  have hw := h.lns.swap (at_tail hd hi) (at_tail hd hj)
  rw [swp_append hd] at hw
  have hk : Kp (· = G) wr ((((wr.setCell ⟨G, 2 * (d + i), none⟩ (.slice (some ⟨s.gx, 0, none⟩) n s.cx)).setCell ⟨G, 2 * (d + i) + 1, none⟩ (.slice (some ⟨s.gb, 0, none⟩) m s.cb)).setCell ⟨G, 2 * (d + j), none⟩ (.slice (some ⟨r.gx, 0, none⟩) n r.cx)).setCell ⟨G, 2 * (d + j) + 1, none⟩ (.slice (some ⟨r.gb, 0, none⟩) m r.cb)) :=
    (((((Kp.refl (· = G) wr).set (p := ⟨G, 2 * (d + i), none⟩) rfl _).set (p := ⟨G, 2 * (d + i) + 1, none⟩) rfl _).set (p := ⟨G, 2 * (d + j), none⟩) rfl _).set (p := ⟨G, 2 * (d + j) + 1, none⟩) rfl _)
  exact ⟨h.sw.perm ((swp_perm hi hj).symm.map _), hw.drew, (h.below.trans (h.lns.below_swap hk)).trans ((nb_drew _).mono (hw.base)), (h.ok.keep h.gb (by intro i hi; have := h.lns.low.1; omega) hk).drew, h.gb⟩
theorem swp_head {rs : List LR} {j : Nat} {r s : LR} (hi : rs[0]? = some r) (hj : rs[j]? = some s) : (swp rs 0 j r s)[0]? = some s := by
  obtain ⟨hi1, hi2⟩ := List.getElem?_eq_some_iff.1 hi
  unfold swp
  rw [List.getElem?_set]
  by_cases h : j = 0
  · subst h
    rw [hi] at hj
    cases hj
    rw [if_pos rfl, if_pos (by simpa using hi1)]
  · rw [if_neg h, List.getElem?_set, if_pos rfl, if_pos hi1]
theorem head_cons {rs : List LR} {s : LR} (h : rs[0]? = some s) : ∃ R, rs = s :: R := by
  cases rs with
  | nil => cases h
  | cons a R => simp at h; exact ⟨R, by rw [h]⟩
theorem alloc1_1 (w : World) (a b : Value) (t : TypeId) : (w.alloc (.cells #[a, b] t)).cell? ⟨w.heap.size, 1, none⟩ = some b := by
  simp only [World.cell?, World.alloc, Array.getElem?_push, Array.size_push]
  repeat (first | rw [if_neg (by omega)] | rw [if_pos (by omega)])
  rfl
theorem wdiv_fq (a b : Int) (ha : Za a) (hb : Za b) (hbz : b ≠ 0) (w : World) (hG : GOk w) :
    Calls Tryz.prog 53 #[.string (tx a), .string (tx b)] w fun e w' => e = .returned (.tuple #[.string (tx (Ln.fq a b)), .string (tx (a - b * Ln.fq a b)), .int .i64 0]) ∧ Below w.heap.size w w' := by
  refine (wdiv_any a b ha hb hbz w hG).mono ?_
  rintro e w' ⟨q, r, hf, he, hw⟩
  have hq := Ln.fq_unique hbz hf.1 hf.2
  have hr : r = a - b * q := by have := hf.1; omega
  rw [hr, hq] at he
  exact ⟨he, hw⟩
theorem natabs_za {a : Int} (h : Za a) : Za (a.natAbs : Int) := by
  have := h.nat
  unfold Za
  rw [tx_nat]
  exact this

set_option maxRecDepth 100000 in
set_option maxHeartbeats 1600000 in
theorem sweep_any (n m c F D B G d k cap : Nat) (w : World) (P rs : List LR) (hd : P.length = d) (hk : rs.length = k) (hc : c < n) (hL : Lns n m w B G (P ++ rs))
    (hF : ∀ r ∈ rs, Ln.Bd F r.ln) (hFD : Ln.FB F < 10 ^ D) (hD0 : 1 ≤ D) (hD : D ≤ 4000000000) (hG : GOk w) (hB : Gb B) (hn : n ≤ 1000) (hm : m ≤ 1000) (hk1 : k ≤ 1000) (hd1 : d ≤ 1000) (hcap : k ≤ cap) :
    Calls Tryz.prog 81 #[.slice (some ⟨G, 2 * d, none⟩) k cap, .int .i64 c] w fun e w' => ∃ f rs', e = .returned (.bool f) ∧
      Lns n m w' B G (P ++ rs') ∧ Ln.SwEnd n m c F (rs.map LR.ln) (rs'.map LR.ln) f ∧ Below B w w' ∧ GOk w' := by
  have hsz : ∀ l ∈ rs.map LR.ln, Ln.Sized n m l := by
    intro l hl
    obtain ⟨r, hr, rfl⟩ := List.mem_map.1 hl
    exact hL.size r (List.mem_append_right _ hr)
  have hbd : ∀ l ∈ rs.map LR.ln, Ln.Bd F l := by
    intro l hl
    obtain ⟨r, hr, rfl⟩ := List.mem_map.1 hl
    exact hF r hr
  have R0 : Rnd n m c F (rs.map LR.ln) w w B G P rs := ⟨Ln.Sw.start hsz hbd, hL, Below.refl _ _, hG, hB⟩
  have M0 := Lib.hid (Ln.Ms.start (c := c) hbd)
  obtain ⟨L0, hL0⟩ : ∃ L0, L0 = rs.map LR.ln := ⟨_, rfl⟩
  rw [← hL0] at R0 ⊢
  have HK := Lib.hid hk
  have HP := Lib.hid hd
  have HL0 := Lib.hid hL0
  clear hd hk hL hF hG hsz hbd hL0
  go_enter Tryz.func81, Tryz.ntmps81
  go_wp2_with fail
  go_loopg [5] (2 * F + 2) (fun q s wr => ∃ rs', rs'.length = k ∧ Ln.Ms c q (rs'.map LR.ln) ∧ Rnd n m c F L0 w wr B G P rs')
  case atStart => exact ⟨rs, HK.out, HL0.out ▸ M0.out, R0⟩
  case round =>
    obtain ⟨rs', hk', hms, hR⟩ := hrel
    have HK' := Lib.hid hk'
    have HM := Lib.hid hms
    clear M0 HL0 HK R0 hk' hms rs
    obtain ⟨rs, rfl⟩ : ∃ rs, rs = rs' := ⟨_, rfl⟩
    go_wp2_with fail
    go_loopw [5, 6, 16] (fun s5 s6 s16 wx => ∃ (i : Nat) (b : Int) (t : Nat), i ≤ k ∧ t ≤ i ∧ s5 = .int .i64 b ∧ s6 = .int .i64 t ∧ s16 = .int .i64 i ∧ Hid (Ln.Scan c (rs.map LR.ln) i b t) ∧ Below wr.heap.size wr wx) (fun _ _ s16 _ => k - (intOf s16).toNat)
    case atStart => exact ⟨0, -1, 0, Nat.zero_le _, Nat.le_refl _, rfl, rfl, rfl, Ln.Scan.start c _, nb_refl _⟩
    case round =>
      rename_i wr0
      obtain ⟨i, b, t, hi, hti, rfl, rfl, rfl, hsc, hbl⟩ := hrel
      by_cases hlt : i < k
      · obtain ⟨r, hr⟩ : ∃ r, rs[i]? = some r := ⟨rs[i]'(by have := HK'.out; omega), List.getElem?_eq_getElem _⟩
        have hR1 := hR.nb hbl
        have hat := at_tail HP.out hr
        have hx := hR1.lns.xcell hat
        have hb := hR1.lns.bcell hat
        rw [Nat.mul_add, Nat.mul_comm 2 i] at hx hb
        unfold LR.xv at hx
        unfold LR.bv at hb
        have hrm := List.mem_of_getElem? hr
        have hxc := (hR1.lns.rows r (List.mem_append_right _ hrm)).1.cell (i := c) (by rw [(hR1.lns.size r (List.mem_append_right _ hrm)).1]; exact hc)
        obtain ⟨v, hv⟩ : ∃ v, v = Ln.at_ c r.ln := ⟨_, rfl⟩
        rw [show r.x.getD c 0 = v from hv.symm] at hxc
        have HV := Lib.hid hv
        clear hv
        have hxa := fun (o : Obj) => cellB (nb_alloc wr o) hxc
        by_cases hv0 : v = 0
        · subst hv0
          have hz : ((tx 0).toList == [48]) = true := by rw [tx_eq_zero]; rfl
          have HS := Lib.hid (hsc.out.skip (by rw [List.length_map]; have := HK'.out; omega) (by rw [getD_ln hr]; exact HV.out.symm))
          go_wp2_with fail
          go_roundw
          case rel => exact ⟨i + 1, b, t, by omega, by omega, rfl, rfl, by go_num, HS, hbl.trans ((nb_alloc wr _).mono hbl.size)⟩
          case measure => (simp [intOf]) <;> omega
        · have hz : ((tx v).toList == [48]) = false := by rw [tx_eq_zero, decide_eq_false hv0]
          by_cases hbn : b < 0
          · obtain ⟨rfl, _⟩ := hsc.out.none hbn
            have HS := Lib.hid (hsc.out.take_ (by rw [List.length_map]; have := HK'.out; omega) (by rw [getD_ln hr]; rw [← HV.out]; exact hv0) (fun h => by omega))
            clear hbn
            go_wp2_with fail
            go_quiet (fail)
            go_wp2_with fail
            go_roundw
            case rel => exact ⟨i + 1, i, t + 1, by omega, by omega, rfl, by go_num, by go_num, HS, hbl.trans ((nb_trans (nb_alloc wr _) (nb_drewN _ _)).mono hbl.size)⟩
            case measure => (simp [intOf]) <;> omega
          · obtain ⟨bn, rfl⟩ : ∃ bn : Nat, b = bn := ⟨b.toNat, by omega⟩
            have hbi : bn < i := by have := (hsc.out.some (by omega)).1; omega
            obtain ⟨s, hs⟩ : ∃ s, rs[bn]? = some s := ⟨rs[bn]'(by have := HK'.out; omega), List.getElem?_eq_getElem _⟩
            have hsat := at_tail HP.out hs
            have hsx := hR1.lns.xcell hsat
            rw [Nat.mul_add, Nat.mul_comm 2 bn] at hsx
            unfold LR.xv at hsx
            have hsm := List.mem_of_getElem? hs
            have hsc' := (hR1.lns.rows s (List.mem_append_right _ hsm)).1.cell (i := c) (by rw [(hR1.lns.size s (List.mem_append_right _ hsm)).1]; exact hc)
            obtain ⟨u, hu⟩ : ∃ u, u = Ln.at_ c s.ln := ⟨_, rfl⟩
            rw [show s.x.getD c 0 = u from hu.symm] at hsc'
            have AV := Lib.hid (fun W => abs_any v ((HV.out ▸ at_lt10 (hR1.bd hrm) hFD c : Lt10 D v).za (by omega) hD0).sz W)
            have AU := Lib.hid (fun W => abs_any u ((hu ▸ at_lt10 (hR1.bd hsm) hFD c : Lt10 D u).za (by omega) hD0).sz W)
            have CP : ∃ z : Int, (z < 0 ↔ v.natAbs < u.natAbs) ∧ ∀ W, Calls Tryz.prog 122 #[.string (tn v.natAbs), .string (tn u.natAbs)] W fun e w' => e = .returned (.int .i64 z) ∧ Below W.heap.size W w' := by
              refine ⟨cmp v.natAbs u.natAbs, ?_, fun W => ?_⟩
              · unfold cmp
                split
                · omega
                · split <;> omega
              · rw [← tx_nat, ← tx_nat]
                exact wcompare_any _ _ (natabs_za ((HV.out ▸ at_lt10 (hR1.bd hrm) hFD c : Lt10 D v).za (by omega) hD0)) (natabs_za ((hu ▸ at_lt10 (hR1.bd hsm) hFD c : Lt10 D u).za (by omega) hD0)) W
            obtain ⟨z, hz1, CZ'⟩ := CP
            have CZ := Lib.hid CZ'
            have HS : Hid ((z < 0 → Ln.Scan c (rs.map LR.ln) (i + 1) i (t + 1)) ∧ (¬ z < 0 → Ln.Scan c (rs.map LR.ln) (i + 1) bn (t + 1))) := Lib.hid (by
              have e1 : (List.map LR.ln rs).getD i ([], []) = r.ln := getD_ln hr
              have e2 : (List.map LR.ln rs).getD ((bn : Int)).toNat ([], []) = s.ln := by rw [Int.toNat_natCast]; exact getD_ln hs
              constructor
              · intro hzz
                exact hsc.out.take_ (by rw [List.length_map]; have := HK'.out; omega) (by rw [e1, ← HV.out]; exact hv0) (fun _ => by rw [e1, e2, ← HV.out, ← hu]; exact hz1.1 hzz)
              · intro hzz
                exact hsc.out.keep (by rw [List.length_map]; have := HK'.out; omega) (by rw [e1, ← HV.out]; exact hv0) (by omega) (by rw [e1, e2, ← HV.out, ← hu]; exact fun h => hzz (hz1.2 h)))
            clear CZ' hz1 hu HV hbn hv0 hsat hat hxa
            obtain ⟨X, hX⟩ : ∃ X, X = tx v := ⟨_, rfl⟩
            obtain ⟨Y, hY⟩ : ∃ Y, Y = tx u := ⟨_, rfl⟩
            obtain ⟨X', hX'⟩ : ∃ X, X = tn v.natAbs := ⟨_, rfl⟩
            obtain ⟨Y', hY'⟩ : ∃ Y, Y = tn u.natAbs := ⟨_, rfl⟩
            rw [← hX] at hxc hz AV
            rw [← hY] at hsc' AU
            rw [← hX'] at AV CZ
            rw [← hY'] at AU CZ
            have hxa := fun (o : Obj) => cellB (nb_alloc wr o) hxc
            have hsa := fun (o : Obj) => cellB (nb_alloc wr o) hsc'
            have hga := fun (o : Obj) => cellB (nb_alloc wr o) hsx
            clear hX hY hX' hY' hxc hsc'
            by_cases hzz : z < 0
            · have HS1 := Lib.hid (HS.out.1 hzz)
              clear HS
              go_wp2_with fail
              have i1 : (0 : Int) ≤ (bn : Int) := by omega
              have i2 : (bn : Int) < (k : Int) := by omega
              have KS : ∀ w1 w2 : World, Below w1.heap.size w1 w2 → (fun w' => Below wr.heap.size wr w' ∧ w'.cell? ⟨wr.heap.size, 0, none⟩ = some (.slice (some ⟨r.gx, 0, none⟩) n r.cx) ∧ w'.cell? ⟨r.gx, c, none⟩ = some (.string X) ∧ w'.cell? ⟨G, 2 * d + bn * 2, none⟩ = some (.slice (some ⟨s.gx, 0, none⟩) n s.cx) ∧ w'.cell? ⟨s.gx, c, none⟩ = some (.string Y)) w1 → (fun w' => Below wr.heap.size wr w' ∧ w'.cell? ⟨wr.heap.size, 0, none⟩ = some (.slice (some ⟨r.gx, 0, none⟩) n r.cx) ∧ w'.cell? ⟨r.gx, c, none⟩ = some (.string X) ∧ w'.cell? ⟨G, 2 * d + bn * 2, none⟩ = some (.slice (some ⟨s.gx, 0, none⟩) n s.cx) ∧ w'.cell? ⟨s.gx, c, none⟩ = some (.string Y)) w2 := fun w1 w2 hb h => ⟨nb_trans h.1 hb, cellB hb h.2.1, cellB hb h.2.2.1, cellB hb h.2.2.2.1, cellB hb h.2.2.2.2⟩
              have KB : (fun w' => Below wr.heap.size wr w' ∧ w'.cell? ⟨wr.heap.size, 0, none⟩ = some (.slice (some ⟨r.gx, 0, none⟩) n r.cx) ∧ w'.cell? ⟨r.gx, c, none⟩ = some (.string X) ∧ w'.cell? ⟨G, 2 * d + bn * 2, none⟩ = some (.slice (some ⟨s.gx, 0, none⟩) n s.cx) ∧ w'.cell? ⟨s.gx, c, none⟩ = some (.string Y)) (wr.alloc (.cells #[.slice (some ⟨r.gx, 0, none⟩) n r.cx, .slice (some ⟨r.gb, 0, none⟩) m r.cb] 90)) := ⟨nb_alloc _ _, alloc1_0 _ _ _ _, hxa _, hga _, hsa _⟩
              go_region_held3 (fun w' => Below wr.heap.size wr w' ∧ w'.cell? ⟨wr.heap.size, 0, none⟩ = some (.slice (some ⟨r.gx, 0, none⟩) n r.cx) ∧ w'.cell? ⟨r.gx, c, none⟩ = some (.string X) ∧ w'.cell? ⟨G, 2 * d + bn * 2, none⟩ = some (.slice (some ⟨s.gx, 0, none⟩) n s.cx) ∧ w'.cell? ⟨s.gx, c, none⟩ = some (.string Y))
                (first | exact KS _ _ hb3 (by assumption) | exact KS _ _ hb2 (by assumption) | exact KS _ _ hb1 (by assumption) | exact KS _ _ (nb_drew _) KB)
                (first | (go_at_call 123; with_reducible refine (AV.out _).mono ?_; rintro e w1 ⟨rfl, hb1⟩) | (go_at_call 123; with_reducible refine (AU.out _).mono ?_; rintro e w1 ⟨rfl, hb2⟩) | (go_at_call 122; refine (CZ.out _).mono ?_; rintro e w2 ⟨rfl, hb3⟩))
              all_goals
                have hbw := ((by assumption : (fun w' => Below wr.heap.size wr w' ∧ w'.cell? ⟨wr.heap.size, 0, none⟩ = some (.slice (some ⟨r.gx, 0, none⟩) n r.cx) ∧ w'.cell? ⟨r.gx, c, none⟩ = some (.string X) ∧ w'.cell? ⟨G, 2 * d + bn * 2, none⟩ = some (.slice (some ⟨s.gx, 0, none⟩) n s.cx) ∧ w'.cell? ⟨s.gx, c, none⟩ = some (.string Y)) w2)).1
                clear hb1 hb2 hb3
                go_wp2_with fail
                go_roundw
                case rel => exact ⟨i + 1, i, t + 1, by omega, by omega, rfl, rfl, by go_num, HS1, hbl.trans (hbw.mono hbl.size)⟩
                case measure => (simp [intOf]) <;> omega
            · have HS1 := Lib.hid (HS.out.2 hzz)
              clear HS
              go_wp2_with fail
              have i1 : (0 : Int) ≤ (bn : Int) := by omega
              have i2 : (bn : Int) < (k : Int) := by omega
              have KS : ∀ w1 w2 : World, Below w1.heap.size w1 w2 → (fun w' => Below wr.heap.size wr w' ∧ w'.cell? ⟨wr.heap.size, 0, none⟩ = some (.slice (some ⟨r.gx, 0, none⟩) n r.cx) ∧ w'.cell? ⟨r.gx, c, none⟩ = some (.string X) ∧ w'.cell? ⟨G, 2 * d + bn * 2, none⟩ = some (.slice (some ⟨s.gx, 0, none⟩) n s.cx) ∧ w'.cell? ⟨s.gx, c, none⟩ = some (.string Y)) w1 → (fun w' => Below wr.heap.size wr w' ∧ w'.cell? ⟨wr.heap.size, 0, none⟩ = some (.slice (some ⟨r.gx, 0, none⟩) n r.cx) ∧ w'.cell? ⟨r.gx, c, none⟩ = some (.string X) ∧ w'.cell? ⟨G, 2 * d + bn * 2, none⟩ = some (.slice (some ⟨s.gx, 0, none⟩) n s.cx) ∧ w'.cell? ⟨s.gx, c, none⟩ = some (.string Y)) w2 := fun w1 w2 hb h => ⟨nb_trans h.1 hb, cellB hb h.2.1, cellB hb h.2.2.1, cellB hb h.2.2.2.1, cellB hb h.2.2.2.2⟩
              have KB : (fun w' => Below wr.heap.size wr w' ∧ w'.cell? ⟨wr.heap.size, 0, none⟩ = some (.slice (some ⟨r.gx, 0, none⟩) n r.cx) ∧ w'.cell? ⟨r.gx, c, none⟩ = some (.string X) ∧ w'.cell? ⟨G, 2 * d + bn * 2, none⟩ = some (.slice (some ⟨s.gx, 0, none⟩) n s.cx) ∧ w'.cell? ⟨s.gx, c, none⟩ = some (.string Y)) (wr.alloc (.cells #[.slice (some ⟨r.gx, 0, none⟩) n r.cx, .slice (some ⟨r.gb, 0, none⟩) m r.cb] 90)) := ⟨nb_alloc _ _, alloc1_0 _ _ _ _, hxa _, hga _, hsa _⟩
              go_region_held3 (fun w' => Below wr.heap.size wr w' ∧ w'.cell? ⟨wr.heap.size, 0, none⟩ = some (.slice (some ⟨r.gx, 0, none⟩) n r.cx) ∧ w'.cell? ⟨r.gx, c, none⟩ = some (.string X) ∧ w'.cell? ⟨G, 2 * d + bn * 2, none⟩ = some (.slice (some ⟨s.gx, 0, none⟩) n s.cx) ∧ w'.cell? ⟨s.gx, c, none⟩ = some (.string Y))
                (first | exact KS _ _ hb3 (by assumption) | exact KS _ _ hb2 (by assumption) | exact KS _ _ hb1 (by assumption) | exact KS _ _ (nb_drew _) KB)
                (first | (go_at_call 123; with_reducible refine (AV.out _).mono ?_; rintro e w1 ⟨rfl, hb1⟩) | (go_at_call 123; with_reducible refine (AU.out _).mono ?_; rintro e w1 ⟨rfl, hb2⟩) | (go_at_call 122; refine (CZ.out _).mono ?_; rintro e w2 ⟨rfl, hb3⟩))
              all_goals
                have hbw := ((by assumption : (fun w' => Below wr.heap.size wr w' ∧ w'.cell? ⟨wr.heap.size, 0, none⟩ = some (.slice (some ⟨r.gx, 0, none⟩) n r.cx) ∧ w'.cell? ⟨r.gx, c, none⟩ = some (.string X) ∧ w'.cell? ⟨G, 2 * d + bn * 2, none⟩ = some (.slice (some ⟨s.gx, 0, none⟩) n s.cx) ∧ w'.cell? ⟨s.gx, c, none⟩ = some (.string Y)) w2)).1
                clear hb1 hb2 hb3
                go_wp2_with fail
                go_roundw
                case rel => exact ⟨i + 1, bn, t + 1, by omega, by omega, rfl, rfl, by go_num, HS1, hbl.trans (hbw.mono hbl.size)⟩
                case measure => (simp [intOf]) <;> omega
      · obtain rfl : i = k := by omega
        clear hlt
        have hR1 := hR.nb hbl
        have HSc : Hid (Ln.Scan c (rs.map LR.ln) (rs.map LR.ln).length b t) := Lib.hid (by rw [List.length_map, HK'.out]; exact hsc.out)
        by_cases hbn : b < 0
        · obtain ⟨rfl, _⟩ := hsc.out.none hbn
          have HN := Lib.hid (scan_none HSc.out)
          clear hbn
          go_wp2_with fail
          go_ret
          exact ⟨false, rs, rfl, hR1.lns, hR1.end_no HN.out, hR1.below, hR1.ok⟩
        · obtain ⟨bn, rfl⟩ : ∃ bn : Nat, b = bn := ⟨b.toNat, by omega⟩
          have hbi : bn < i := by have := (hsc.out.some (by omega)).1; omega
          obtain ⟨s, hs⟩ : ∃ s, rs[bn]? = some s := ⟨rs[bn]'(by have := HK'.out; omega), List.getElem?_eq_getElem _⟩
          obtain ⟨r0, hr0⟩ : ∃ r0, rs[0]? = some r0 := ⟨rs[0]'(by have := HK'.out; omega), List.getElem?_eq_getElem _⟩
          have HLe := Lib.hid (scan_some HSc.out hs)
          have hsat := at_tail HP.out hs
          have hrat := at_tail HP.out hr0
          have g1 := hR1.lns.xcell hsat
          have g2 := hR1.lns.bcell hsat
          have g3 := hR1.lns.xcell hrat
          have g4 := hR1.lns.bcell hrat
          have HRW := Lib.hid (hR1.swap HP.out hr0 hs (a := 2 * d) (b := 2 * d + bn * 2) (by omega) (by omega))
          rw [Nat.mul_add, Nat.mul_comm 2 bn] at g1 g2
          rw [Nat.add_zero d] at g3 g4
          have f1 := hR1.lns.frozen
          unfold LR.xv at g1 g3
          unfold LR.bv at g2 g4
          have i1 : (0 : Int) ≤ (bn : Int) := by omega
          have i2 : (bn : Int) < (i : Int) := by omega
          have i3 : 0 < i := by omega
          have f2 : ∀ j, wr.drew.frozen? ⟨G, j, none⟩ = false := f1
          clear hbn hsc
          go_wp2_with fail
          go_upto_region 12 with fail
          go_cut [54] (fun _ wx => Rnd n m c F L0 w wx B G P (swp rs 0 bn r0 s))
          case first =>
            by_cases hb0 : bn = 0
            · obtain rfl := hb0
              obtain rfl : r0 = s := by rw [hs] at hr0; cases hr0; rfl
              rw [Nat.zero_mul, Nat.add_zero (2 * d)] at HRW
              rw [Nat.zero_mul, Nat.add_zero (2 * d)] at g1 g2
              go_region
              go_wp2_with fail
              go_meet
              exact HRW.out
            · have hb1 : 0 < bn := by omega
              go_region
              go_wp2_with fail
              go_meet
              exact HRW.out
          case rest =>
            obtain ⟨R, hRs⟩ : ∃ R, swp rs 0 bn r0 s = s :: R := head_cons (swp_head hr0 hs)
            have hpm : ((s :: R).map LR.ln).Perm (rs.map LR.ln) := by rw [← hRs]; exact (swp_perm hr0 hs).map _
            have HL2 : Hid (Ln.Least c s.ln ((s :: R).map LR.ln) ∧ t = Ln.nz c ((s :: R).map LR.ln) ∧ Ln.Ms c gk ((s :: R).map LR.ln)) := Lib.hid ⟨HLe.out.1.perm hpm.symm, HLe.out.2.trans (Ln.nz_perm hpm.symm), HM.out.perm hpm.symm⟩
            have HLen : Hid (R.length + 1 = i) := Lib.hid (by have := hpm.length_eq; simp only [List.length_map, List.length_cons, HK'.out] at this; exact this)
            rw [hRs] at hcut
            clear hRs hpm hs hr0 hsat hrat g1 g2 g3 g4 f1 f2 HM HLe HK' hR1 hR HSc hbl HRW
            by_cases ht1 : t = 1
            · subst ht1
              go_wp2_with fail
              go_ret
              refine ⟨true, s :: R, rfl, hcut.lns, ⟨hcut.sw.len, hcut.sw.sized, hcut.sw.same, hcut.sw.st.bd, (fun h => by cases h), fun _ => ⟨s.ln, R.map LR.ln, rfl, HL2.out.1.1, ?_⟩⟩, hcut.below, hcut.ok⟩
              have h2 := HL2.out.2.1
              rw [List.map_cons, Ln.nz_cons _ HL2.out.1.1] at h2
              exact Ln.zero_of_nz (by omega)
            · have HT := Lib.hid ht1
              have ht2 : ((t : Int) == 1) = false := by rw [beq_eq_false_iff_ne]; omega
              clear ht1
              have h2 : 2 ≤ i := by
                have h3 := HL2.out.2.1
                rw [List.map_cons, Ln.nz_cons _ HL2.out.1.1] at h3
                have := HT.out
                omega
              have i4 : (1 : Int) ≤ (i : Int) := by omega
              have i5 : ¬ cap = 1 := by omega
              have i6 : (i : Int) ≤ (cap : Int) := by omega
              have HB : ∀ r ∈ s :: R, Ln.Bd (Ln.FB F) r.ln := fun r hr => hcut.bd hr
              have E0 : Hid (∀ l ∈ (s :: R).map LR.ln, Ln.Sized n m l) := Lib.hid hcut.sw.sized
              have R0 : Lns n m wc B G (P ++ s :: part c s 0 R) := by rw [part_zero]; exact hcut.lns
              have HC := Lib.hid hcut
              have b0 := hcut.below
              have ok0 := hcut.ok
              clear hcut
              go_wp2_with fail
              go_loopw [71] (fun s71 wx => ∃ j : Nat, j + 1 ≤ i ∧ s71 = .int .i64 j ∧ Lns n m wx B G (P ++ s :: part c s j R) ∧ Below B w wx ∧ GOk wx) (fun s71 _ => i - (intOf s71).toNat)
              case atStart => exact ⟨0, by omega, rfl, R0, b0, ok0⟩
              case round =>
                rename_i wq
                clear R0 b0 ok0
                obtain ⟨j, hj, rfl, hl, hbl, hok⟩ := hrel
                by_cases hji : j + 1 < i
                · obtain ⟨q, hq⟩ : ∃ q, R[j]? = some q := ⟨R[j]'(by have := HLen.out; omega), List.getElem?_eq_getElem _⟩
                  have hqp := part_at c s j R hq
                  have hqm := List.mem_of_getElem? hq
                  have hq1 : (s :: part c s j R)[1 + j]? = some q := by rw [Nat.add_comm, List.getElem?_cons_succ]; exact hqp
                  have hqa := at_tail HP.out hq1
                  have hsa := at_tail (i := 0) (rs := s :: part c s j R) HP.out rfl
                  have g1 := hl.xcell hqa
                  have g2 := hl.bcell hqa
                  have g3 := hl.xcell hsa
                  have g4 := hl.bcell hsa
                  rw [show 2 * (d + (1 + j)) = 2 * d + 2 + j * 2 by omega] at g1 g2
                  rw [Nat.add_zero d] at g3 g4
                  unfold LR.xv at g1 g3
                  unfold LR.bv at g2 g4
                  have hqM := List.mem_of_getElem? hqa
                  have hsM := List.mem_of_getElem? hsa
                  have hqr := hl.rows q hqM
                  have hsr := hl.rows s hsM
                  have hqs := hl.size q hqM
                  have hss := hl.size s hsM
                  have hqo := hl.own q hqM
                  have hso := hl.own s hsM
                  have hap := hl.apart_at hqa hsa (by omega)
                  have hql := hl.low.2 q hqM
                  have hlg := hl.low.1
                  have hltG := hl.lt
                  have hltq := hqr.1.lt
                  have hltqb := hqr.2.lt
                  have gx1 := hqr.1.cell (i := c) (by rw [hqs.1]; exact hc)
                  have gx2 := hsr.1.cell (i := c) (by rw [hss.1]; exact hc)
                  obtain ⟨v, hv⟩ : ∃ v, v = Ln.at_ c q.ln := ⟨_, rfl⟩
                  obtain ⟨u, hu⟩ : ∃ u, u = Ln.at_ c s.ln := ⟨_, rfl⟩
                  rw [show q.x.getD c 0 = v from hv.symm] at gx1
                  rw [show s.x.getD c 0 = u from hu.symm] at gx2
                  have hbq := HB q (List.mem_cons_of_mem _ hqm)
                  have hbs := HB s (List.mem_cons_self ..)
                  have hu0 : u ≠ 0 := by rw [hu]; exact HL2.out.1.1
                  have lv : Lt10 D v := hv ▸ at_lt10 hbq hFD c
                  have lu : Lt10 D u := hu ▸ at_lt10 hbs hFD c
                  have lk : Lt10 D (Ln.fq v u) := Nat.lt_of_le_of_lt (Ln.fq_abs hu0) lv
                  obtain ⟨kk, hkk⟩ : ∃ kk, kk = Ln.fq v u := ⟨_, rfl⟩
                  rw [← hkk] at lk
                  obtain ⟨zz, hzz⟩ : ∃ zz, zz = v - u * kk := ⟨_, rfl⟩
                  have WD := Lib.hid (fun W (hg : GOk W) => wdiv_fq v u (lv.za (by omega) hD0) (lu.za (by omega) hD0) hu0 W hg)
                  rw [← hkk, ← hzz] at WD
                  have LS : Hid (∀ W : World, Lns n m W B G (P ++ s :: part c s j R) → GOk W → Calls Tryz.prog 84 #[.agg #[.slice (some ⟨q.gx, 0, none⟩) n q.cx, .slice (some ⟨q.gb, 0, none⟩) m q.cb], .string (tx kk), .agg #[.slice (some ⟨s.gx, 0, none⟩) n s.cx, .slice (some ⟨s.gb, 0, none⟩) m s.cb]] W fun e w' => e = .returned (.tuple #[]) ∧
                      Lns n m w' B G (P ++ s :: part c s (j + 1) R) ∧ Below B W w' ∧ GOk w' ∧ Kp (fun i => i = q.gx ∨ i = q.gb) W w') := Lib.hid (fun W hW hg => by
                    have t1 := bd_lt10 hbq hFD
                    have t2 := bd_lt10 hbs hFD
                    refine (less_any W B q.gx q.gb s.gx s.gb q.cx q.cb s.cx s.cb n m D kk q.x s.x q.b s.b hqs.1 hss.1 hqs.2 hss.2 hg hB hql.1 hql.2 (hW.rows q hqM).1 (hW.rows s hsM).1 (hW.rows q hqM).2 (hW.rows s hsM).2
                      hap.1 hap.2.2.2 hqo.1 hap.2.1 hap.2.2.1 hn hm t1.1 t2.1 t1.2 t2.2 lk hD0 hD).mono ?_
                    rintro e w' ⟨he, hr1, hr2, hk⟩
                    refine ⟨he, ?_, hW.below_write hqM hk, hg.keep hB (by intro i hi; omega) hk, hk⟩
                    have hw := hW.write hqa hr1 hr2 (by rw [subL_len (hqs.1.trans hss.1.symm), hqs.1]) (by rw [subL_len (hqs.2.trans hss.2.symm), hqs.2]) hk
                    have e2 : (P ++ s :: part c s j R).set (d + (1 + j)) { q with x := subL kk q.x s.x, b := subL kk q.b s.b } = P ++ s :: part c s (j + 1) R := by
                      rw [← part_step c s j R hq, List.set_append_right _ _ (by have := HP.out; omega)]
                      have e3 : d + (1 + j) - P.length = j + 1 := by have := HP.out; omega
                      rw [e3, List.set_cons_succ]
                      congr 3
                      unfold LR.red
                      rw [← hv, ← hu, ← hkk]
                    rw [e2] at hw
                    exact hw)
                  clear hv hu hkk hzz hqm hqp hq1 hqa hsa hqM hsM hqr hsr hqs hss hbq hbs hu0 lv lu lk
                  obtain ⟨X, hX⟩ : ∃ X, X = tx v := ⟨_, rfl⟩
                  obtain ⟨Y, hY⟩ : ∃ Y, Y = tx u := ⟨_, rfl⟩
                  obtain ⟨Z, hZ⟩ : ∃ Z, Z = tx kk := ⟨_, rfl⟩
                  obtain ⟨Z', hZ'⟩ : ∃ Z, Z = tx zz := ⟨_, rfl⟩
                  rw [← hX] at gx1 WD
                  rw [← hY] at gx2 WD
                  rw [← hZ] at WD LS
                  rw [← hZ'] at WD
                  clear hX hY hZ hZ'
                  have KS : ∀ w1 w2 : World, Below w1.heap.size w1 w2 → (fun w' => Below wr.heap.size wr w' ∧ GOk w' ∧ Lns n m w' B G (P ++ s :: part c s j R) ∧ w'.cell? ⟨wr.heap.size, 0, none⟩ = some (.slice (some ⟨q.gx, 0, none⟩) n q.cx) ∧ w'.cell? ⟨wr.heap.size, 1, none⟩ = some (.slice (some ⟨q.gb, 0, none⟩) m q.cb) ∧ w'.cell? ⟨q.gx, c, none⟩ = some (.string X) ∧ w'.cell? ⟨s.gx, c, none⟩ = some (.string Y) ∧ w'.cell? ⟨G, 2 * d, none⟩ = some (.slice (some ⟨s.gx, 0, none⟩) n s.cx) ∧ w'.cell? ⟨G, 2 * d + 1, none⟩ = some (.slice (some ⟨s.gb, 0, none⟩) m s.cb)) w1 → (fun w' => Below wr.heap.size wr w' ∧ GOk w' ∧ Lns n m w' B G (P ++ s :: part c s j R) ∧ w'.cell? ⟨wr.heap.size, 0, none⟩ = some (.slice (some ⟨q.gx, 0, none⟩) n q.cx) ∧ w'.cell? ⟨wr.heap.size, 1, none⟩ = some (.slice (some ⟨q.gb, 0, none⟩) m q.cb) ∧ w'.cell? ⟨q.gx, c, none⟩ = some (.string X) ∧ w'.cell? ⟨s.gx, c, none⟩ = some (.string Y) ∧ w'.cell? ⟨G, 2 * d, none⟩ = some (.slice (some ⟨s.gx, 0, none⟩) n s.cx) ∧ w'.cell? ⟨G, 2 * d + 1, none⟩ = some (.slice (some ⟨s.gb, 0, none⟩) m s.cb)) w2 := fun w1 w2 hb h => ⟨nb_trans h.1 hb, h.2.1.below hb, h.2.2.1.nb hb, cellB hb h.2.2.2.1, cellB hb h.2.2.2.2.1, cellB hb h.2.2.2.2.2.1, cellB hb h.2.2.2.2.2.2.1, cellB hb h.2.2.2.2.2.2.2.1, cellB hb h.2.2.2.2.2.2.2.2⟩
                  have KB : (fun w' => Below wr.heap.size wr w' ∧ GOk w' ∧ Lns n m w' B G (P ++ s :: part c s j R) ∧ w'.cell? ⟨wr.heap.size, 0, none⟩ = some (.slice (some ⟨q.gx, 0, none⟩) n q.cx) ∧ w'.cell? ⟨wr.heap.size, 1, none⟩ = some (.slice (some ⟨q.gb, 0, none⟩) m q.cb) ∧ w'.cell? ⟨q.gx, c, none⟩ = some (.string X) ∧ w'.cell? ⟨s.gx, c, none⟩ = some (.string Y) ∧ w'.cell? ⟨G, 2 * d, none⟩ = some (.slice (some ⟨s.gx, 0, none⟩) n s.cx) ∧ w'.cell? ⟨G, 2 * d + 1, none⟩ = some (.slice (some ⟨s.gb, 0, none⟩) m s.cb)) (wr.alloc (.cells #[.slice (some ⟨q.gx, 0, none⟩) n q.cx, .slice (some ⟨q.gb, 0, none⟩) m q.cb] 90)) :=
                    ⟨nb_alloc _ _, hok.below (nb_alloc _ _), hl.nb (nb_alloc _ _), alloc1_0 _ _ _ _, alloc1_1 _ _ _ _, cellB (nb_alloc _ _) gx1, cellB (nb_alloc _ _) gx2, cellB (nb_alloc _ _) g3, cellB (nb_alloc _ _) g4⟩
                  go_wp2_with fail
                  go_region_held3 (fun w' => Below wr.heap.size wr w' ∧ GOk w' ∧ Lns n m w' B G (P ++ s :: part c s j R) ∧ w'.cell? ⟨wr.heap.size, 0, none⟩ = some (.slice (some ⟨q.gx, 0, none⟩) n q.cx) ∧ w'.cell? ⟨wr.heap.size, 1, none⟩ = some (.slice (some ⟨q.gb, 0, none⟩) m q.cb) ∧ w'.cell? ⟨q.gx, c, none⟩ = some (.string X) ∧ w'.cell? ⟨s.gx, c, none⟩ = some (.string Y) ∧ w'.cell? ⟨G, 2 * d, none⟩ = some (.slice (some ⟨s.gx, 0, none⟩) n s.cx) ∧ w'.cell? ⟨G, 2 * d + 1, none⟩ = some (.slice (some ⟨s.gb, 0, none⟩) m s.cb))
                    (first | exact KS _ _ hb1 (by assumption) | exact KS _ _ (nb_drew _) KB)
                    (first | (go_at_call 53; refine (WD.out _ (And.left (And.right (by assumption : (fun w' => Below wr.heap.size wr w' ∧ GOk w' ∧ Lns n m w' B G (P ++ s :: part c s j R) ∧ w'.cell? ⟨wr.heap.size, 0, none⟩ = some (.slice (some ⟨q.gx, 0, none⟩) n q.cx) ∧ w'.cell? ⟨wr.heap.size, 1, none⟩ = some (.slice (some ⟨q.gb, 0, none⟩) m q.cb) ∧ w'.cell? ⟨q.gx, c, none⟩ = some (.string X) ∧ w'.cell? ⟨s.gx, c, none⟩ = some (.string Y) ∧ w'.cell? ⟨G, 2 * d, none⟩ = some (.slice (some ⟨s.gx, 0, none⟩) n s.cx) ∧ w'.cell? ⟨G, 2 * d + 1, none⟩ = some (.slice (some ⟨s.gb, 0, none⟩) m s.cb)) _)))).mono ?_; rintro e w1 ⟨rfl, hb1⟩))
                  have H18 : (fun w' => Below wr.heap.size wr w' ∧ GOk w' ∧ Lns n m w' B G (P ++ s :: part c s j R) ∧ w'.cell? ⟨wr.heap.size, 0, none⟩ = some (.slice (some ⟨q.gx, 0, none⟩) n q.cx) ∧ w'.cell? ⟨wr.heap.size, 1, none⟩ = some (.slice (some ⟨q.gb, 0, none⟩) m q.cb) ∧ w'.cell? ⟨q.gx, c, none⟩ = some (.string X) ∧ w'.cell? ⟨s.gx, c, none⟩ = some (.string Y) ∧ w'.cell? ⟨G, 2 * d, none⟩ = some (.slice (some ⟨s.gx, 0, none⟩) n s.cx) ∧ w'.cell? ⟨G, 2 * d + 1, none⟩ = some (.slice (some ⟨s.gb, 0, none⟩) m s.cb)) w1 := by assumption
                  obtain ⟨k0, k1, k2, k3, k4, -, -, k5, k6⟩ := H18
                  clear KS KB hb1
                  have i7 : (0 : Int) < (i : Int) := by omega
                  have hne : ¬ wr.heap.size = q.gx ∧ ¬ wr.heap.size = q.gb ∧ ¬ G = q.gx ∧ ¬ G = q.gb := ⟨by omega, by omega, fun h => hqo.2.1 h.symm, fun h => hqo.2.2 h.symm⟩
                  have HNE := Lib.hid hne
                  clear hne hap hqo hso
                  go_wp2_with fail
                  go_region_held3 (fun w' => w'.cell? ⟨wr.heap.size, 0, none⟩ = some (.slice (some ⟨q.gx, 0, none⟩) n q.cx) ∧ w'.cell? ⟨wr.heap.size, 1, none⟩ = some (.slice (some ⟨q.gb, 0, none⟩) m q.cb) ∧ w'.cell? ⟨G, 2 * d, none⟩ = some (.slice (some ⟨s.gx, 0, none⟩) n s.cx) ∧ w'.cell? ⟨G, 2 * d + 1, none⟩ = some (.slice (some ⟨s.gb, 0, none⟩) m s.cb))
                    (first | exact ⟨(hkk2.cell (cellB (nb_drew _) k3) (by have := HNE.out; show ¬ (wr.heap.size = _ ∨ wr.heap.size = _); omega)), (hkk2.cell (cellB (nb_drew _) k4) (by have := HNE.out; show ¬ (wr.heap.size = _ ∨ wr.heap.size = _); omega)), (hkk2.cell (cellB (nb_drew _) k5) (by have := HNE.out; show ¬ (G = _ ∨ G = _); omega)), (hkk2.cell (cellB (nb_drew _) k6) (by have := HNE.out; show ¬ (G = _ ∨ G = _); omega))⟩ | exact ⟨cellB (nb_drew _) k3, cellB (nb_drew _) k4, cellB (nb_drew _) k5, cellB (nb_drew _) k6⟩)
                    (first | (go_at_call 84; refine (LS.out _ k2.drew k1.drew).mono ?_; rintro e w2 ⟨rfl, hl2, hb2, hg2, hkk2⟩))
                  have hbB := hl.base
                  have hlw := k2.base
                  clear k3 k4 k5 k6 g1 g2 g3 g4 gx1 gx2 hltG hltq hltqb hql hlg hl
                  have HBL := Lib.hid (((hbl.trans (k0.mono hbB)).trans ((nb_drew w1).mono hlw)).trans hb2)
                  clear k0 k1 k2 hbB hlw
                  go_wp2_with fail
                  go_roundw
                  case rel => exact ⟨j + 1, by omega, by go_num, hl2, HBL.out, hg2⟩
                  case measure => (simp [intOf]) <;> omega
                · obtain rfl : i = j + 1 := by omega
                  have e := part_all c s R
                  obtain rfl : R.length = j := by have := HLen.out; omega
                  rw [e] at hl
                  have e2 : (s :: R.map (LR.red c s)).map LR.ln = s.ln :: (R.map LR.ln).map (Ln.lessq c s.ln) := by
                    rw [List.map_cons, List.map_map, List.map_map]; rfl
                  have hL2 : Ln.Least c s.ln (s.ln :: R.map LR.ln) := HL2.out.1
                  have hn1 : Ln.nz c (s.ln :: R.map LR.ln) ≠ 1 := by
                    have := HL2.out.2.1
                    rw [List.map_cons] at this
                    rw [← this]
                    exact HT.out
                  have hsz := E0.out
                  rw [List.map_cons] at hsz
                  obtain ⟨k', hk', hms'⟩ := Ln.Ms.round (k := gk) (hsz s.ln (List.mem_cons_self ..)) (fun r hr => hsz r (List.mem_cons_of_mem _ hr)) hL2 hn1 (by have := HL2.out.2.2; rwa [List.map_cons] at this)
                  have hsw := HC.out.sw
                  rw [List.map_cons] at hsw
                  have hsw' := hsw.round hc hL2 hn1
                  rw [← e2] at hms' hsw'
                  have HMS := Lib.hid (And.intro hms' hsw')
                  have hk2 : (s :: R.map (LR.red c s)).length = R.length + 1 := by simp
                  have HK2 := Lib.hid hk2
                  clear e e2 hL2 hn1 hsz hms' hsw hsw' hk2
                  go_wp2_with fail
                  go_roundg k'
                  case measure => exact hk'
                  case rel => exact ⟨s :: R.map (LR.red c s), HK2.out, HMS.out.1, ⟨HMS.out.2, hl, hbl, hok, hB⟩⟩
end Go.Proofs.YtmfkpmepgbjmkaaGreatDoor

namespace Go.Proofs.YtmfkpmepgbjmkaaGreatDoor
open Go.RowKit

/-- less, said of the lines. -/
theorem less_lns {n m B G : Nat} {W : World} {rs : List LR} (hW : Lns n m W B G rs) {a b : Nat} {q s : LR} (hqa : rs[a]? = some q) (hsa : rs[b]? = some s) (hab : a ≠ b) (hg : GOk W) (hB : Gb B) (hn : n ≤ 1000) (hm : m ≤ 1000) {D : Nat} {k : Int}
    (hq : Lt10s D q.x ∧ Lt10s D q.b) (hs : Lt10s D s.x ∧ Lt10s D s.b) (hk : Lt10 D k) (hD0 : 1 ≤ D) (hD : D ≤ 4000000000) :
    Calls Tryz.prog 84 #[.agg #[.slice (some ⟨q.gx, 0, none⟩) n q.cx, .slice (some ⟨q.gb, 0, none⟩) m q.cb], .string (tx k), .agg #[.slice (some ⟨s.gx, 0, none⟩) n s.cx, .slice (some ⟨s.gb, 0, none⟩) m s.cb]] W fun e w' => e = .returned (.tuple #[]) ∧
      Lns n m w' B G (rs.set a { q with x := subL k q.x s.x, b := subL k q.b s.b }) ∧ Below B W w' ∧ GOk w' ∧ Kp (fun i => i = q.gx ∨ i = q.gb) W w' := by
  have hqM := List.mem_of_getElem? hqa
  have hsM := List.mem_of_getElem? hsa
  have hqs := hW.size q hqM
  have hss := hW.size s hsM
  have hap := hW.apart_at hqa hsa hab
  have hql := hW.low.2 q hqM
  refine (less_any W B q.gx q.gb s.gx s.gb q.cx q.cb s.cx s.cb n m D k q.x s.x q.b s.b hqs.1 hss.1 hqs.2 hss.2 hg hB hql.1 hql.2 (hW.rows q hqM).1 (hW.rows s hsM).1 (hW.rows q hqM).2 (hW.rows s hsM).2
    hap.1 hap.2.2.2 (hW.own q hqM).1 hap.2.1 hap.2.2.1 hn hm hq.1 hs.1 hq.2 hs.2 hk hD0 hD).mono ?_
  rintro e w' ⟨he, hr1, hr2, hk⟩
  exact ⟨he, hW.write hqa hr1 hr2 (by rw [subL_len (hqs.1.trans hss.1.symm), hqs.1]) (by rw [subL_len (hqs.2.trans hss.2.symm), hqs.2]) hk, hW.below_write hqM hk, hg.keep hB (by intro i hi; omega) hk, hk⟩
theorem turn_lns {n m B G : Nat} {W : World} {rs : List LR} (hW : Lns n m W B G rs) {a : Nat} {q : LR} (hqa : rs[a]? = some q) (hg : GOk W) (hB : Gb B) (hn : n ≤ 1000) (hm : m ≤ 1000) {D : Nat}
    (hq : Lt10s D q.x ∧ Lt10s D q.b) (hD0 : 1 ≤ D) (hD : D ≤ 4000000000) :
    Calls Tryz.prog 83 #[.agg #[.slice (some ⟨q.gx, 0, none⟩) n q.cx, .slice (some ⟨q.gb, 0, none⟩) m q.cb]] W fun e w' => e = .returned (.tuple #[]) ∧
      Lns n m w' B G (rs.set a { q with x := negL q.x, b := negL q.b }) ∧ Below B W w' ∧ GOk w' ∧ Kp (fun i => i = q.gx ∨ i = q.gb) W w' := by
  have hqM := List.mem_of_getElem? hqa
  have hqs := hW.size q hqM
  have hql := hW.low.2 q hqM
  refine (turn_any W B q.gx q.gb q.cx q.cb n m D q.x q.b hqs.1 hqs.2 hg hB hql.1 hql.2 (hW.rows q hqM).1 (hW.rows q hqM).2 (hW.own q hqM).1 hn hm hq.1 hq.2 hD0 hD).mono ?_
  rintro e w' ⟨he, hr1, hr2, hk⟩
  exact ⟨he, hW.write hqa hr1 hr2 (by simp [negL, hqs.1]) (by simp [negL, hqs.2]) hk, hW.below_write hqM hk, hg.keep hB (by intro i hi; omega) hk, hk⟩

set_option maxRecDepth 100000 in
set_option maxHeartbeats 1600000 in
theorem sweep_nil (w : World) (p : Option Addr) (cap c : Nat) :
    Calls Tryz.prog 81 #[.slice p 0 cap, .int .i64 c] w fun e w' => e = .returned (.bool false) ∧ w' = w := by
  go_enter Tryz.func81, Tryz.ntmps81
  go_wp2_with fail
  go_loopg [5] 0 (fun q s wr => wr = w)
  case atStart => rfl
  case round =>
    subst hrel
    go_wp2_with fail
    go_loopw [5, 6, 16] (fun s5 s6 s16 wx => s5 = .int .i64 (-1) ∧ s6 = .int .i64 0 ∧ s16 = .int .i64 0 ∧ wx = wr) (fun _ _ s16 _ => 0)
    case atStart => exact ⟨rfl, rfl, rfl, rfl⟩
    case round =>
      obtain ⟨rfl, rfl, rfl, rfl⟩ := hrel
      go_wp2_with fail
      go_ret
      exact ⟨rfl, rfl⟩
/-- No columns. -/
theorem echelon_zero (w : World) (v : Value) :
    Calls Tryz.prog 47 #[v, .int .i64 0] w fun e w' => e = .returned (.int .i64 0) ∧ w' = w := by
  go_enter Tryz.func47, Tryz.ntmps47
  go_wp2_with fail
  go_loopw [5, 14] (fun s5 s wr => s5 = .int .i64 0 ∧ s = .int .i64 0 ∧ wr = w) (fun _ s _ => 0)
  case atStart => exact ⟨rfl, rfl, rfl⟩
  case round =>
    obtain ⟨rfl, rfl, rfl⟩ := hrel
    go_wp2_with fail
    go_ret
    exact ⟨rfl, rfl⟩

/-- Where an echelon's walk stands. -/
structure Est (n m c E F : Nat) (L0 : List Ln.Ln) (w wr : World) (B G : Nat) (Dl Rl : List LR) : Prop where
  ech : Ln.Ech n m c (Ln.gb c F) L0 (Dl.map LR.ln) (Rl.map LR.ln)
  lns : Lns n m wr B G (Dl ++ Rl)
  below : Below B w wr
  ok : GOk wr
theorem Est.len {n m c E F : Nat} {L0 : List Ln.Ln} {w wr : World} {B G : Nat} {Dl Rl : List LR} (h : Est n m c E F L0 w wr B G Dl Rl) : Dl.length + Rl.length = L0.length := by
  have := h.ech.len
  simpa using this

set_option maxRecDepth 100000 in
set_option maxHeartbeats 1600000 in
theorem echelon_any (n m E F B G k cap : Nat) (w : World) (rs : List LR) (hk : rs.length = k) (hL : Lns n m w B G rs)
    (hF : ∀ r ∈ rs, Ln.Bd F r.ln) (hFE : F < 10 ^ E) (hE0 : 1 ≤ E) (hE : Ln.dg n E ≤ 4000000000) (hG : GOk w) (hB : Gb B) (hn : n ≤ 1000) (hm : m ≤ 1000) (hk1 : k ≤ 1000) (hcap : k ≤ cap) :
    Calls Tryz.prog 47 #[.slice (some ⟨G, 0, none⟩) k cap, .int .i64 n] w fun e w' => ∃ Dl Rl, e = .returned (.int .i64 Dl.length) ∧ Est n m n E F (rs.map LR.ln) w w' B G Dl Rl := by
  have hsz : ∀ l ∈ rs.map LR.ln, Ln.Sized n m l := by
    intro l hl
    obtain ⟨r, hr, rfl⟩ := List.mem_map.1 hl
    exact hL.size r hr
  have hbd : ∀ l ∈ rs.map LR.ln, Ln.Bd F l := by
    intro l hl
    obtain ⟨r, hr, rfl⟩ := List.mem_map.1 hl
    exact hF r hr
  have R0 : Est n m 0 E F (rs.map LR.ln) w w B G [] rs := ⟨Ln.Ech.start hsz hbd, hL, Below.refl _ _, hG⟩
  have HL0 : Hid ((rs.map LR.ln).length = k) := Lib.hid (by rw [List.length_map, hk])
  obtain ⟨L0, hL0⟩ : ∃ L0, L0 = rs.map LR.ln := ⟨_, rfl⟩
  rw [← hL0] at R0 HL0 ⊢
  clear hk hL hF hG hsz hbd hL0
  go_enter Tryz.func47, Tryz.ntmps47
  go_wp2_with fail
  go_loopw [5, 14] (fun s5 s14 wr => ∃ (c : Nat) (Dl Rl : List LR), c ≤ n ∧ s5 = .int .i64 Dl.length ∧ s14 = .int .i64 c ∧ Est n m c E F L0 w wr B G Dl Rl) (fun _ s14 _ => n - (intOf s14).toNat)
  case atStart => exact ⟨0, [], rs, Nat.zero_le _, rfl, rfl, R0⟩
  case round =>
    clear R0
    obtain ⟨c, Dl, Rl, hc, rfl, rfl, hS⟩ := hrel
    have HLk : Hid (Dl.length + Rl.length = k) := Lib.hid (by rw [hS.len, HL0.out])
    obtain ⟨d, hd⟩ : ∃ d, d = Dl.length := ⟨_, rfl⟩
    have HD := Lib.hid hd.symm
    rw [← hd]
    clear hd
    by_cases hcn : c < n
    · have hDD : Ln.dg (c + 1) E ≤ 4000000000 := Nat.le_trans (Ln.dg_mono (show c + 1 ≤ n by omega) E) hE
      have hD0 : 1 ≤ Ln.dg (c + 1) E := Ln.dg_pos hE0 _
      have hgb := Ln.gb_lt hFE c
      have hgb1 := Ln.gb_lt hFE (c + 1)
      have hFB : Ln.FB (Ln.gb c F) < 10 ^ (Ln.dg (c + 1) E) := Nat.lt_of_le_of_lt (Ln.FB_le_GB _) hgb1
      have hgbl : Ln.gb c F < 10 ^ (Ln.dg (c + 1) E) := Nat.lt_of_le_of_lt (Ln.F_le_GB _) hgb1
      obtain ⟨D, hDe⟩ : ∃ D, D = Ln.dg (c + 1) E := ⟨_, rfl⟩
      rw [← hDe] at hDD hD0 hFB hgbl
      have HBD := Lib.hid (And.intro hFB hgbl)
      clear hgb hgb1 hDe hFB hgbl
      by_cases hdk : d = k
      · have hR : Rl = [] := List.eq_nil_of_length_eq_zero (by have := HLk.out; have := HD.out; omega)
        subst hdk
        subst hR
        have hS' : Est n m (c + 1) E F L0 w wr B G Dl [] := ⟨(hS.ech.miss (by intro l hl; simp at hl)).more (Ln.F_le_GB _), hS.lns, hS.below, hS.ok⟩
        have i1 : (d : Int) ≤ (cap : Int) := by omega
        go_wp2_with (go_at_call 81; refine (sweep_nil _ _ _ _).mono ?_; rintro e w1 ⟨rfl, rfl⟩)
        all_goals
          go_roundw
          case rel => exact ⟨c + 1, Dl, [], by omega, by rw [HD.out], by go_num, hS'⟩
          case measure => (simp [intOf]) <;> omega
      · have hdl : d < k := by have := HLk.out; have := HD.out; omega
        have i1 : (d : Int) ≤ (k : Int) := by omega
        have i2 : (d : Int) ≤ (cap : Int) := by omega
        have i3 : ¬ cap = d := by omega
        have i4 : ¬ cap - d = 0 := by omega
        have SW := Lib.hid (sweep_any n m c (Ln.gb c F) D B G d (k - d) (cap - d) wr Dl Rl HD.out (by have := HLk.out; have := HD.out; omega) hcn hS.lns (fun r hr => hS.ech.bd _ (List.mem_append_right _ (List.mem_map.2 ⟨r, hr, rfl⟩))) HBD.out.1 hD0 hDD hS.ok hB hn hm (by omega) (by omega) (by omega))
        rw [Nat.mul_comm] at SW
        clear hdk
        go_upto_if 22 with (go_at_call 81; refine SW.out.mono ?_; rintro e w1 ⟨f, Rl', rfl, hl1, hse, hb1, hg1⟩)
        clear SW i1 i2 i3 i4
        have hsw := hS.ech.swept (Nat.le_of_lt hcn) hse
        have HDF := Lib.hid (fun l hl => hS.ech.bd l (List.mem_append_left (Rl.map LR.ln) hl))
        have hbw := hS.below.trans (hb1.mono (Nat.le_refl _))
        cases f with
        | false =>
          have hS' : Est n m (c + 1) E F L0 w w1 B G Dl Rl' := ⟨(hsw.miss (hse.no rfl)).more (Ln.FB_le_GB _), hl1, hbw, hg1⟩
          clear hS hse hsw
          go_wp2_with fail
          go_roundw
          case rel => exact ⟨c + 1, Dl, Rl', by omega, by rw [HD.out], by go_num, hS'⟩
          case measure => (simp [intOf]) <;> omega
        | true =>
          obtain ⟨t, R, rfl, ht0, hz⟩ : ∃ t R, Rl' = t :: R ∧ Ln.at_ c t.ln ≠ 0 ∧ ∀ l ∈ R.map LR.ln, Ln.at_ c l = 0 := by
            obtain ⟨top, R', e, h1, h2⟩ := hse.yes rfl
            cases Rl' with
            | nil => cases e
            | cons t R =>
              rw [List.map_cons] at e
              injection e with e1 e2
              exact ⟨t, R, rfl, e1 ▸ h1, e2 ▸ h2⟩
          have HZ := Lib.hid hz
          have hqa : (Dl ++ t :: R)[d]? = some t := at_tail (i := 0) HD.out rfl
          have g1 := hl1.xcell hqa
          have g2 := hl1.bcell hqa
          rw [Nat.mul_comm] at g1 g2
          unfold LR.xv at g1
          unfold LR.bv at g2
          have htM := List.mem_of_getElem? hqa
          have htr := hl1.rows t htM
          have hts := hl1.size t htM
          have htb : Ln.Bd (Ln.FB (Ln.gb c F)) t.ln := hse.bd t.ln (List.mem_cons_self ..)
          have gx1 := htr.1.cell (i := c) (by rw [hts.1]; exact hcn)
          obtain ⟨u, hu⟩ : ∃ u, u = Ln.at_ c t.ln := ⟨_, rfl⟩
          rw [show t.x.getD c 0 = u from hu.symm] at gx1
          have lu : Lt10 D u := hu ▸ at_lt10 htb HBD.out.1 c
          have SG := Lib.hid (fun W => sign_any u (lu.za (by omega) hD0).sz W)
          rw [← hu] at ht0
          have hs2 : u < 0 ∧ u.sign = -1 ∨ 0 < u ∧ u.sign = 1 := by
            rcases Int.lt_trichotomy u 0 with h | h | h
            · exact .inl ⟨h, Int.sign_eq_neg_one_of_neg h⟩
            · exact absurd h ht0
            · exact .inr ⟨h, Int.sign_eq_one_of_pos h⟩
          have TL := Lib.hid (fun W (hW : Lns n m W B G (Dl ++ t :: R)) (hg : GOk W) => turn_lns hW hqa hg hB hn hm (bd_lt10 htb HBD.out.1) hD0 hDD)
          have HE := Lib.hid hsw
          have HU := Lib.hid hu
          have hltG := hl1.lt
          have hlto := htr.1.lt
          have hltb := htr.2.lt
          clear hS hse hsw hz htr hts htb lu ht0 hu htM hb1
          obtain ⟨X, hX⟩ : ∃ X, X = tx u := ⟨_, rfl⟩
          rw [← hX] at gx1 SG
          clear hX
          have gxa := fun (o : Obj) => cellB (nb_alloc w1 o) gx1
          go_upto_if 33 with (go_at_call 82; refine (SG.out _).mono ?_; rintro e w2 ⟨rfl, hb2⟩)
          have hb3 : Below w1.heap.size w1 w2 := nb_trans (nb_alloc _ _) hb2
          have k1 : w2.cell? ⟨w1.heap.size, 0, none⟩ = some (.slice (some ⟨t.gx, 0, none⟩) n t.cx) := cellB hb2 (alloc1_0 _ _ _ _)
          have k2 : w2.cell? ⟨w1.heap.size, 1, none⟩ = some (.slice (some ⟨t.gb, 0, none⟩) m t.cb) := cellB hb2 (alloc1_1 _ _ _ _)
          have hl2 := hl1.nb hb3
          have hg2 := hg1.below hb3
          have hbB2 := hb3.mono hl1.base
          have HB1 := Lib.hid hbw
          clear hb2 gxa hbw
          obtain ⟨hb, hhb⟩ : ∃ hb, hb = w1.heap.size := ⟨_, rfl⟩
          have hlth : hb < w2.heap.size := hhb ▸ World.block_lt_of_cell? _ _ k1
          rw [← hhb] at k1 k2 ⊢
          have hb1t : t.gx < hb ∧ t.gb < hb := ⟨hhb ▸ hlto, hhb ▸ hltb⟩
          have HLB : Hid (∀ r ∈ Dl, r.gx < hb ∧ r.gb < hb) := Lib.hid (fun r hr => ⟨hhb ▸ (hl1.rows r (List.mem_append_left _ hr)).1.lt, hhb ▸ (hl1.rows r (List.mem_append_left _ hr)).2.lt⟩)
          clear hhb
          go_cut [34] (fun _ wx => ∃ x' b', Lns n m wx B G (Dl ++ { t with x := x', b := b' } :: R) ∧ Hid (Ln.Ech n m c (Ln.FB (Ln.gb c F)) L0 (Dl.map LR.ln) ((LR.ln { t with x := x', b := b' }) :: R.map LR.ln)) ∧ Hid (0 < Ln.at_ c (LR.ln { t with x := x', b := b' })) ∧
            wx.cell? ⟨hb, 0, none⟩ = some (.slice (some ⟨t.gx, 0, none⟩) n t.cx) ∧ wx.cell? ⟨hb, 1, none⟩ = some (.slice (some ⟨t.gb, 0, none⟩) m t.cb) ∧ Below B w wx ∧ GOk wx)
          case first =>
            rcases hs2 with ⟨hneg, hsg⟩ | ⟨hpos, hsg⟩
            · rw [hsg]
              go_wp2_with (go_at_call 83; (refine (TL.out _ hl2 hg2).mono ?_; rintro e w3 ⟨rfl, hl3, hb4, hg3, hkk⟩))
              go_meet
              have e2 : (Dl ++ t :: R).set d { t with x := negL t.x, b := negL t.b } = Dl ++ { t with x := negL t.x, b := negL t.b } :: R := by
                rw [List.set_append_right _ _ (by have := HD.out; omega), show d - Dl.length = 0 by have := HD.out; omega]
                rfl
              rw [e2] at hl3
              refine ⟨negL t.x, negL t.b, hl3, ?_, ?_, ?_, ?_, (HB1.out.trans hbB2).trans hb4, hg3⟩
              · exact HE.out.turned
              · have h1 : Ln.at_ c (Ln.turn t.ln) = - Ln.at_ c t.ln := Ln.neg_getD _ _
                have h2 := HU.out
                have h3 : 0 < Ln.at_ c (Ln.turn t.ln) := by omega
                exact h3
              · exact hkk.cell k1 (by show ¬ (hb = _ ∨ hb = _); omega)
              · exact hkk.cell k2 (by show ¬ (hb = _ ∨ hb = _); omega)
            · rw [hsg]
              go_wp2_with fail
              go_meet
              refine ⟨t.x, t.b, hl2, HE.out, ?_, k1, k2, HB1.out.trans hbB2, hg2⟩
              show 0 < Ln.at_ c t.ln
              rw [← HU.out]
              exact hpos
          case rest =>
            clear HE HU k1 k2 hl2 hg2 hbB2 HB1 hltG hlto hltb hb3 SG TL hs2 g1 g2 gx1 hqa hl1 hg1
            obtain ⟨x', b', hl, HE, HP, k1, k2, hbw, hg⟩ := hcut
            obtain ⟨t', ht'⟩ : ∃ t' : LR, t' = { t with x := x', b := b' } := ⟨_, rfl⟩
            rw [← ht'] at hl HE HP
            rw [show t.gx = t'.gx from by rw [ht'], show t.cx = t'.cx from by rw [ht']] at k1
            rw [show t.gb = t'.gb from by rw [ht'], show t.cb = t'.cb from by rw [ht']] at k2
            clear ht' hb1t
            clear t
            obtain ⟨t, rfl⟩ : ∃ t, t = t' := ⟨_, rfl⟩
            have R0 : Lns n m wc B G (part c t 0 Dl ++ t :: R) := by rw [part_zero]; exact hl
            have i2 : (d : Int) ≤ (cap : Int) := by omega
            clear hl
            go_wp2_with fail
            go_loopw [40] (fun s40 wx => ∃ i : Nat, i ≤ d ∧ s40 = .int .i64 i ∧ Lns n m wx B G (part c t i Dl ++ t :: R) ∧ wx.cell? ⟨hb, 0, none⟩ = some (.slice (some ⟨t.gx, 0, none⟩) n t.cx) ∧ wx.cell? ⟨hb, 1, none⟩ = some (.slice (some ⟨t.gb, 0, none⟩) m t.cb) ∧ Below B w wx ∧ GOk wx) (fun s40 _ => d - (intOf s40).toNat)
            case atStart => exact ⟨0, Nat.zero_le _, rfl, R0, k1, k2, hbw, hg⟩
            case round =>
              rename_i wq
              clear R0 k1 k2 hbw hg
              obtain ⟨i, hi, rfl, hl, k1, k2, hbw, hg⟩ := hrel
              by_cases hid : i < d
              · obtain ⟨q, hq⟩ : ∃ q, Dl[i]? = some q := ⟨Dl[i]'(by have := HD.out; omega), List.getElem?_eq_getElem _⟩
                have hqp := part_at c t i Dl hq
                have hqm := List.mem_of_getElem? hq
                have hpl := part_len c t i Dl (by have := HD.out; omega)
                have hqa : (part c t i Dl ++ t :: R)[i]? = some q := by rw [List.getElem?_append_left (by rw [hpl, HD.out]; exact hid)]; exact hqp
                have hta : (part c t i Dl ++ t :: R)[d]? = some t := by rw [List.getElem?_append_right (by rw [hpl, HD.out]; exact Nat.le_refl _), hpl, HD.out, Nat.sub_self]; rfl
                have g1 := hl.xcell hqa
                have g2 := hl.bcell hqa
                rw [Nat.mul_comm] at g1 g2
                unfold LR.xv at g1
                unfold LR.bv at g2
                have hqM := List.mem_of_getElem? hqa
                have htM := List.mem_of_getElem? hta
                have hqr := hl.rows q hqM
                have htr := hl.rows t htM
                have gx1 := hqr.1.cell (i := c) (by rw [(hl.size q hqM).1]; exact hcn)
                have gx2 := htr.1.cell (i := c) (by rw [(hl.size t htM).1]; exact hcn)
                obtain ⟨v, hv⟩ : ∃ v, v = Ln.at_ c q.ln := ⟨_, rfl⟩
                obtain ⟨u, hu⟩ : ∃ u, u = Ln.at_ c t.ln := ⟨_, rfl⟩
                rw [show q.x.getD c 0 = v from hv.symm] at gx1
                rw [show t.x.getD c 0 = u from hu.symm] at gx2
                have hbq : Ln.Bd (Ln.gb c F) q.ln := HDF.out _ (List.mem_map.2 ⟨q, hqm, rfl⟩)
                have hbt : Ln.Bd (Ln.FB (Ln.gb c F)) t.ln := HE.out.bd _ (List.mem_append_right _ (List.mem_cons_self ..))
                have hu0 : u ≠ 0 := by have := HP.out; omega
                have lv : Lt10 D v := hv ▸ at_lt10 hbq HBD.out.2 c
                have lu : Lt10 D u := hu ▸ at_lt10 hbt HBD.out.1 c
                have lk : Lt10 D (Ln.fq v u) := Nat.lt_of_le_of_lt (Ln.fq_abs hu0) lv
                obtain ⟨kk, hkk⟩ : ∃ kk, kk = Ln.fq v u := ⟨_, rfl⟩
                rw [← hkk] at lk
                obtain ⟨zz, hzz⟩ : ∃ zz, zz = v - u * kk := ⟨_, rfl⟩
                have WD := Lib.hid (fun W (hg : GOk W) => wdiv_fq v u (lv.za (by omega) hD0) (lu.za (by omega) hD0) hu0 W hg)
                rw [← hkk, ← hzz] at WD
                have LS := Lib.hid (fun (W : World) (hW : Lns n m W B G (part c t i Dl ++ t :: R)) (hg : GOk W) => less_lns hW hqa hta (by omega) hg hB hn hm (bd_lt10 hbq HBD.out.2) (bd_lt10 hbt HBD.out.1) lk hD0 hDD)
                have e2 : (part c t i Dl ++ t :: R).set i { q with x := subL kk q.x t.x, b := subL kk q.b t.b } = part c t (i + 1) Dl ++ t :: R := by
                  rw [List.set_append_left _ _ (by rw [hpl, HD.out]; exact hid), ← part_step c t i Dl hq]
                  congr 2
                  unfold LR.red
                  rw [← hv, ← hu, ← hkk]
                rw [e2] at LS
                have hqb := HLB.out q hqm
                have hne : ¬ (hb = q.gx ∨ hb = q.gb) := by omega
                have HNE := Lib.hid hne
                clear hv hu hkk hzz hqm hqp hqM htM hqr htr hbq hbt hu0 lv lu lk hpl e2 hqa hta hqb hne
                obtain ⟨X, hX⟩ : ∃ X, X = tx v := ⟨_, rfl⟩
                obtain ⟨Y, hY⟩ : ∃ Y, Y = tx u := ⟨_, rfl⟩
                obtain ⟨Z, hZ⟩ : ∃ Z, Z = tx kk := ⟨_, rfl⟩
                obtain ⟨Z', hZ'⟩ : ∃ Z, Z = tx zz := ⟨_, rfl⟩
                rw [← hX] at gx1 WD
                rw [← hY] at gx2 WD
                rw [← hZ] at WD LS
                rw [← hZ'] at WD
                clear hX hY hZ hZ'
                have KS : ∀ w1 w2 : World, Below w1.heap.size w1 w2 → (fun w' => Below wr.heap.size wr w' ∧ GOk w' ∧ Lns n m w' B G (part c t i Dl ++ t :: R) ∧ w'.cell? ⟨wr.heap.size, 0, none⟩ = some (.slice (some ⟨q.gx, 0, none⟩) n q.cx) ∧ w'.cell? ⟨wr.heap.size, 1, none⟩ = some (.slice (some ⟨q.gb, 0, none⟩) m q.cb) ∧ w'.cell? ⟨q.gx, c, none⟩ = some (.string X) ∧ w'.cell? ⟨t.gx, c, none⟩ = some (.string Y) ∧ w'.cell? ⟨hb, 0, none⟩ = some (.slice (some ⟨t.gx, 0, none⟩) n t.cx) ∧ w'.cell? ⟨hb, 1, none⟩ = some (.slice (some ⟨t.gb, 0, none⟩) m t.cb)) w1 → (fun w' => Below wr.heap.size wr w' ∧ GOk w' ∧ Lns n m w' B G (part c t i Dl ++ t :: R) ∧ w'.cell? ⟨wr.heap.size, 0, none⟩ = some (.slice (some ⟨q.gx, 0, none⟩) n q.cx) ∧ w'.cell? ⟨wr.heap.size, 1, none⟩ = some (.slice (some ⟨q.gb, 0, none⟩) m q.cb) ∧ w'.cell? ⟨q.gx, c, none⟩ = some (.string X) ∧ w'.cell? ⟨t.gx, c, none⟩ = some (.string Y) ∧ w'.cell? ⟨hb, 0, none⟩ = some (.slice (some ⟨t.gx, 0, none⟩) n t.cx) ∧ w'.cell? ⟨hb, 1, none⟩ = some (.slice (some ⟨t.gb, 0, none⟩) m t.cb)) w2 := fun w1 w2 hb h => ⟨nb_trans h.1 hb, h.2.1.below hb, h.2.2.1.nb hb, cellB hb h.2.2.2.1, cellB hb h.2.2.2.2.1, cellB hb h.2.2.2.2.2.1, cellB hb h.2.2.2.2.2.2.1, cellB hb h.2.2.2.2.2.2.2.1, cellB hb h.2.2.2.2.2.2.2.2⟩
                have KB : (fun w' => Below wr.heap.size wr w' ∧ GOk w' ∧ Lns n m w' B G (part c t i Dl ++ t :: R) ∧ w'.cell? ⟨wr.heap.size, 0, none⟩ = some (.slice (some ⟨q.gx, 0, none⟩) n q.cx) ∧ w'.cell? ⟨wr.heap.size, 1, none⟩ = some (.slice (some ⟨q.gb, 0, none⟩) m q.cb) ∧ w'.cell? ⟨q.gx, c, none⟩ = some (.string X) ∧ w'.cell? ⟨t.gx, c, none⟩ = some (.string Y) ∧ w'.cell? ⟨hb, 0, none⟩ = some (.slice (some ⟨t.gx, 0, none⟩) n t.cx) ∧ w'.cell? ⟨hb, 1, none⟩ = some (.slice (some ⟨t.gb, 0, none⟩) m t.cb)) (wr.alloc (.cells #[.slice (some ⟨q.gx, 0, none⟩) n q.cx, .slice (some ⟨q.gb, 0, none⟩) m q.cb] 90)) :=
                  ⟨nb_alloc _ _, hg.below (nb_alloc _ _), hl.nb (nb_alloc _ _), alloc1_0 _ _ _ _, alloc1_1 _ _ _ _, cellB (nb_alloc _ _) gx1, cellB (nb_alloc _ _) gx2, cellB (nb_alloc _ _) k1, cellB (nb_alloc _ _) k2⟩
                go_wp2_with fail
                go_region_held3 (fun w' => Below wr.heap.size wr w' ∧ GOk w' ∧ Lns n m w' B G (part c t i Dl ++ t :: R) ∧ w'.cell? ⟨wr.heap.size, 0, none⟩ = some (.slice (some ⟨q.gx, 0, none⟩) n q.cx) ∧ w'.cell? ⟨wr.heap.size, 1, none⟩ = some (.slice (some ⟨q.gb, 0, none⟩) m q.cb) ∧ w'.cell? ⟨q.gx, c, none⟩ = some (.string X) ∧ w'.cell? ⟨t.gx, c, none⟩ = some (.string Y) ∧ w'.cell? ⟨hb, 0, none⟩ = some (.slice (some ⟨t.gx, 0, none⟩) n t.cx) ∧ w'.cell? ⟨hb, 1, none⟩ = some (.slice (some ⟨t.gb, 0, none⟩) m t.cb))
                  (first | exact KS _ _ hb1 (by assumption) | exact KS _ _ (nb_drew _) KB)
                  (first | (go_at_call 53; refine (WD.out _ (And.left (And.right (by assumption : (fun w' => Below wr.heap.size wr w' ∧ GOk w' ∧ Lns n m w' B G (part c t i Dl ++ t :: R) ∧ w'.cell? ⟨wr.heap.size, 0, none⟩ = some (.slice (some ⟨q.gx, 0, none⟩) n q.cx) ∧ w'.cell? ⟨wr.heap.size, 1, none⟩ = some (.slice (some ⟨q.gb, 0, none⟩) m q.cb) ∧ w'.cell? ⟨q.gx, c, none⟩ = some (.string X) ∧ w'.cell? ⟨t.gx, c, none⟩ = some (.string Y) ∧ w'.cell? ⟨hb, 0, none⟩ = some (.slice (some ⟨t.gx, 0, none⟩) n t.cx) ∧ w'.cell? ⟨hb, 1, none⟩ = some (.slice (some ⟨t.gb, 0, none⟩) m t.cb)) _)))).mono ?_; rintro e w1 ⟨rfl, hb1⟩))
                have H12 : (fun w' => Below wr.heap.size wr w' ∧ GOk w' ∧ Lns n m w' B G (part c t i Dl ++ t :: R) ∧ w'.cell? ⟨wr.heap.size, 0, none⟩ = some (.slice (some ⟨q.gx, 0, none⟩) n q.cx) ∧ w'.cell? ⟨wr.heap.size, 1, none⟩ = some (.slice (some ⟨q.gb, 0, none⟩) m q.cb) ∧ w'.cell? ⟨q.gx, c, none⟩ = some (.string X) ∧ w'.cell? ⟨t.gx, c, none⟩ = some (.string Y) ∧ w'.cell? ⟨hb, 0, none⟩ = some (.slice (some ⟨t.gx, 0, none⟩) n t.cx) ∧ w'.cell? ⟨hb, 1, none⟩ = some (.slice (some ⟨t.gb, 0, none⟩) m t.cb)) w1 := by assumption
                obtain ⟨q0, q1, q2, q3, q4, -, -, q5, q6⟩ := H12
                clear KS KB hb1
                have hbB := hl.base
                have HBW := Lib.hid (hbw.trans (q0.mono hbB))
                clear hl k1 k2 hbw hg gx1 gx2 g1 g2 q0 hbB
                go_wp2_with (go_at_call 84; refine (LS.out _ q2 q1).mono ?_; rintro e w2 ⟨rfl, hl2, hb2, hg2, hkk2⟩)
                have q7 := hkk2.cell q5 HNE.out
                have q8 := hkk2.cell q6 HNE.out
                have HBW2 := Lib.hid (HBW.out.trans hb2)
                clear q1 q2 q3 q4 q5 q6 hb2
                go_wp2_with fail
                go_roundw
                case rel => exact ⟨i + 1, by omega, by go_num, hl2, q7, q8, HBW2.out, hg2⟩
                case measure => (simp [intOf]) <;> omega
              · obtain rfl : i = d := by omega
                have e1 : part c t i Dl = Dl.map (LR.red c t) := by rw [← HD.out]; exact part_all c t Dl
                rw [e1] at hl
                have e2 : (Dl.map (LR.red c t) ++ [t]).map LR.ln = (Dl.map LR.ln).map (Ln.lessq c t.ln) ++ [t.ln] := by
                  rw [List.map_append, List.map_map, List.map_map]; rfl
                have hh := HE.out.hit (F := Ln.gb c F) hcn HDF.out rfl HP.out HZ.out
                rw [← e2] at hh
                have hS' : Est n m (c + 1) E F L0 w wr B G (Dl.map (LR.red c t) ++ [t]) R := ⟨hh, by rw [List.append_assoc]; exact hl, hbw, hg⟩
                have HDl : Hid ((Dl.map (LR.red c t) ++ [t]).length = i + 1) := Lib.hid (by rw [List.length_append, List.length_map, HD.out]; rfl)
                clear e1 e2 hh hl k1 k2 hbw hg
                go_wp2_with fail
                go_roundw
                case rel => exact ⟨c + 1, Dl.map (LR.red c t) ++ [t], R, by omega, by rw [HDl.out]; go_num, by go_num, hS'⟩
                case measure => (simp [intOf]) <;> omega
    · obtain rfl : c = n := by omega
      go_wp2_with fail
      go_ret
      exact ⟨Dl, Rl, by rw [HD.out]; rfl, hS⟩
end Go.Proofs.YtmfkpmepgbjmkaaGreatDoor

namespace Go.Proofs.YtmfkpmepgbjmkaaGreatDoor
open Go.RowKit

theorem Tryz.infoS : (Tryz.prog.info? 38).map (fun i => (i.zero, i.size, i.bytes)) = some (some (.string ⟨#[]⟩), 1, 16) := by kernel_rfl
theorem Tryz.sizeS : (Tryz.prog.info? 38).map (fun i => i.size) = some 1 := by kernel_rfl
/-- The first n cells hold the text. -/
def rpt (m n : Nat) (s : Value) : List Value := List.replicate n s ++ List.replicate (m - n) (.string ⟨#[]⟩)
theorem rpt_len {m n : Nat} (s : Value) (h : n ≤ m) : (rpt m n s).length = m := by simp [rpt]; omega
theorem rpt_zero (m : Nat) (s : Value) : rpt m 0 s = List.replicate m (.string ⟨#[]⟩) := by simp [rpt]
theorem rpt_splice {m n k : Nat} (s : Value) (h : n + k ≤ m) : splice (rpt m n s) n (List.replicate k s) = rpt m (n + k) s := by
  unfold splice rpt
  rw [List.take_left' (by simp), List.length_replicate]
  rw [List.drop_append, List.drop_eq_nil_of_le (by simp), List.nil_append, List.length_replicate, List.drop_replicate, ← List.append_assoc, List.replicate_append_replicate]
  congr 2
  omega
theorem rpt_cell {w : World} {g m n : Nat} {s : Value} {t : TypeId} (h : w.heap[g]? = some (.cells (rpt m n s).toArray t (0, 0))) : ∀ j, j < n → w.cell? ⟨g, j, none⟩ = some s := by
  intro j hj
  simp only [World.cell?, h]
  simp only [Option.isSome_none, Bool.false_eq_true, if_false]
  rw [List.getElem?_toArray]
  unfold rpt
  rw [List.getElem?_append_left (by simpa using hj)]
  simp [hj]
theorem rpt_row {w : World} {g m : Nat} {z : Int} (h : w.heap[g]? = some (.cells (rpt m m (.string (tx z))).toArray 38 (0, 0))) : Row w g (List.replicate m z) := by
  refine ⟨_, h, ?_⟩
  simp [rpt, strs]

theorem copy_step (W : World) (B b o n k dL dC sC : Nat) (a : Addr) (m : Nat) (s : Value) (HW : W.heap[b]? = some (.cells (rpt m n s).toArray 38 (0, 0))) (h1s : s.oneCell' = true) (hk : k = Nat.min o dL) (hnk : n + k ≤ m)
    (hsrc : ∀ j, j < k → W.cell? (a.add j) = some s) (hB : B ≤ b) :
    ∃ w2, Sem.run Tryz.prog (Builtin.copy_ #[88, 88] 3 #[.slice (some ⟨b, n, none⟩) dL dC, .slice (some a) o sC]) W = .ok (.int .i64 k) w2 ∧ Hid (w2.heap[b]? = some (.cells (rpt m (n + k) s).toArray 38 (0, 0))) ∧ Below B W w2 := by
  have hrun := run_copy_row (P := Tryz.prog) W 88 88 3 38 b n dL dC a o sC (rpt m n s).toArray 38 (List.replicate k s) Tryz.underlying88 Tryz.sizeS HW (by rw [List.length_replicate]; exact hk)
    (by
      intro j v hj
      rw [List.getElem?_replicate] at hj
      by_cases h : j < k
      · rw [if_pos h] at hj; cases hj; exact hsrc j h
      · rw [if_neg h] at hj; cases hj)
    (by rw [List.length_replicate]; simp only [List.size_toArray]; rw [rpt_len s (by omega)]; exact hnk) (by intro v hv; rw [List.eq_of_mem_replicate hv]; exact h1s)
  rw [List.length_replicate] at hrun
  have e : ((rpt m n s).toArray.toList.take n ++ List.replicate k s ++ (rpt m n s).toArray.toList.drop (n + k)) = rpt m (n + k) s := by
    have e1 := rpt_splice (m := m) (n := n) (k := k) s hnk
    unfold splice at e1
    rw [List.length_replicate] at e1
    rw [List.append_assoc]
    exact e1
  rw [e] at hrun
  exact ⟨_, hrun, setRow_heap W b (rpt m n s).toArray _ _ _ HW, below_setRow (Below.refl _ _) hB _⟩

set_option maxRecDepth 100000 in
set_option maxHeartbeats 1600000 in
theorem repeat_any (w : World) (g c m : Nat) (z : Int) (hm : m ≤ 1000) (hm0 : 1 ≤ m) (hg : w.cell? ⟨g, 0, none⟩ = some (.string (tx z))) :
    Calls Tryz.prog 80 #[.slice (some ⟨g, 0, none⟩) 1 c, .int .i64 m] w fun e w' => e = .returned (.slice (some ⟨w.heap.size, 0, none⟩) m m) ∧ Row w' w.heap.size (List.replicate m z) ∧ Below w.heap.size w w' := by
  have hmk := fun W => run_make_row' (P := Tryz.prog) 88 38 (.string ⟨#[]⟩) 16 Tryz.underlying88 Tryz.infoS rfl .i64 .i64 m (by omega) (by omega) W
  have MU := Lib.hid (fun W => Tryz.bits_Mul 1 m (by omega) (by omega) W)
  rw [Nat.one_mul, Nat.div_eq_of_lt (by omega), Nat.mod_eq_of_lt (by omega)] at MU
  obtain ⟨s, hs⟩ : ∃ s, s = Value.string (tx z) := ⟨_, rfl⟩
  rw [← hs] at hg
  have h1s : s.oneCell' = true := by rw [hs]; rfl
  have HS := Lib.hid hs
  have hlt := World.block_lt_of_cell? _ _ hg
  have HW : Hid ((w.alloc (.cells (madeCells #[.string ⟨#[]⟩] m) 38)).heap[w.heap.size]? = some (.cells (rpt m 0 s).toArray 38 (0, 0))) := Lib.hid (by
    have e : (madeCells #[.string ⟨#[]⟩] m : Array Value) = (rpt m 0 s).toArray := by
      rw [rpt_zero, ← toList_madeCells_one]
    rw [e]
    simp [World.alloc, -World.alloc_eq])
  have h0m : (0 : Int) < (m : Int) := by omega
  have hm2 : ¬ (9223372036854775807 < m) := by omega
  clear hs
  go_enter Tryz.func80, Tryz.ntmps80
  obtain ⟨w2, hrun, hg2, hb2'⟩ := copy_step (w.alloc (.cells (madeCells #[.string ⟨#[]⟩] m) 38)) w.heap.size w.heap.size 1 0 1 m m c ⟨g, 0, none⟩ m s HW.out h1s (by show 1 = min 1 m; omega) (by omega)
    (by intro j hj; match j, hj with | 0, _ => exact cellB (nb_alloc _ _) hg) (Nat.le_refl _)
  have hb2 := (nb_alloc w _).trans hb2'
  have HG2 := Lib.hid hg2.out
  clear hg2 HW hb2'
  go_wp2_with (first | (go_at_call 110; refine (MU.out _).mono ?_; rintro e w1 ⟨rfl, rfl⟩))
  go_loopw [8] (fun s8 wr => ∃ n : Nat, 1 ≤ n ∧ n ≤ m ∧ s8 = .int .i64 n ∧ Hid (wr.heap[w1.heap.size]? = some (.cells (rpt m n s).toArray 38 (0, 0))) ∧ Below w1.heap.size w1 wr) (fun s8 _ => m - (intOf s8).toNat)
  case atStart => exact ⟨1, Nat.le_refl _, hm0, rfl, HG2, hb2⟩
  case round =>
    clear HG2 hb2 hrun
    obtain ⟨n, hn1, hn2, rfl, hgr, hbr⟩ := hrel
    by_cases hnm : n < m
    · obtain ⟨k, hk⟩ : ∃ k, k = Nat.min n (m - n) := ⟨_, rfl⟩
      have hk1 : 1 ≤ k ∧ n + k ≤ m := by rw [hk]; show 1 ≤ min n (m - n) ∧ n + min n (m - n) ≤ m; omega
      obtain ⟨w3, hrun, hg3, hb3⟩ := copy_step wr.drew w1.heap.size w1.heap.size n n k (m - n) (m - n) m ⟨w1.heap.size, 0, none⟩ m s hgr.out h1s hk hk1.2
        (by intro j hj; have := rpt_cell hgr.out j (by have : k ≤ n := by (rw [hk]; exact Nat.min_le_left _ _)
                                                       omega)
            unfold Addr.add
            by_cases h0 : j = 0
            · subst h0; simpa using this
            · simpa [h0] using this) (Nat.le_refl _)
      have HG3 := Lib.hid hg3.out
      have i1 : (n : Int) ≤ (m : Int) := by omega
      have i2 : ¬ m = n := by omega
      have i3 : ¬ m - n = 0 := by omega
      have i4 : n + k ≤ m := hk1.2
      have HK := Lib.hid hk1.1
      clear hk hk1 hg3
      go_wp2_with fail
      go_region
      go_wp2_with fail
      go_roundw
      case rel => exact ⟨n + k, by omega, by omega, by go_num, HG3, hbr.trans (((nb_drew wr).mono hbr.size).trans hb3)⟩
      case measure => have := HK.out; (simp [intOf]) <;> omega
    · obtain rfl : n = m := by omega
      go_wp2_with fail
      go_ret
      exact ⟨rfl, rpt_row (by rw [← HS.out]; exact hgr.out), hbr⟩
end Go.Proofs.YtmfkpmepgbjmkaaGreatDoor
