/-
  WALKS: hermite's echelon.
-/
import Derived.Test.YtmfkpmepgbjmkaaGreatDoorSweep
set_option linter.unusedVariables false
set_option linter.unusedSimpArgs false
namespace Go.Proofs.YtmfkpmepgbjmkaaGreatDoor
open Go.RowKit

/-- less, said of the lines. -/
theorem less_lns {n m B G : Nat} {W : World} {rs : List LR} (hW : Lns n m W B G rs) {a b : Nat} {q s : LR} (hqa : rs[a]? = some q) (hsa : rs[b]? = some s) (hab : a ≠ b) (hg : GOk W) (hB : Gb B) (hn : n ≤ 1000) (hm : m ≤ 1000) {D : Nat} {k : Int}
    (hq : Lt10s D q.x ∧ Lt10s D q.b) (hs : Lt10s D s.x ∧ Lt10s D s.b) (hk : Lt10 D k) (hD0 : 1 ≤ D) (hD : D ≤ 4000000000) :
    Calls Tryz.prog 84 #[.agg #[.slice (some ⟨q.gx, 0, none⟩) n q.cx, .slice (some ⟨q.gb, 0, none⟩) m q.cb], .string (tx k), .agg #[.slice (some ⟨s.gx, 0, none⟩) n s.cx, .slice (some ⟨s.gb, 0, none⟩) m s.cb]] W fun e w' => e = .returned (.tuple #[]) ∧
      Lns n m w' B G (rs.set a { q with x := subL k q.x s.x, b := subL k q.b s.b }) ∧ Below B W w' ∧ GOk w' ∧ Kp (fun i => i = q.gx ∨ i = q.gb) W w' := by
  have hqM := List.mem_of_getElem? hqa
  have hsM := List.mem_of_getElem? hsa
  have hqs := hW.size q hqM
  have hss := hW.size s hsM
  have hap := hW.apart_at hqa hsa hab
  have hql := hW.low.2 q hqM
  refine (less_any W B q.gx q.gb s.gx s.gb q.cx q.cb s.cx s.cb n m D k q.x s.x q.b s.b hqs.1 hss.1 hqs.2 hss.2 hg hB hql.1 hql.2 (hW.rows q hqM).1 (hW.rows s hsM).1 (hW.rows q hqM).2 (hW.rows s hsM).2
    hap.1 hap.2.2.2 (hW.own q hqM).1 hap.2.1 hap.2.2.1 hn hm hq.1 hs.1 hq.2 hs.2 hk hD0 hD).mono ?_
  rintro e w' ⟨he, hr1, hr2, hk⟩
  exact ⟨he, hW.write hqa hr1 hr2 (by rw [subL_len (hqs.1.trans hss.1.symm), hqs.1]) (by rw [subL_len (hqs.2.trans hss.2.symm), hqs.2]) hk, hW.below_write hqM hk, hg.keep hB (by intro i hi; omega) hk, hk⟩
theorem turn_lns {n m B G : Nat} {W : World} {rs : List LR} (hW : Lns n m W B G rs) {a : Nat} {q : LR} (hqa : rs[a]? = some q) (hg : GOk W) (hB : Gb B) (hn : n ≤ 1000) (hm : m ≤ 1000) {D : Nat}
    (hq : Lt10s D q.x ∧ Lt10s D q.b) (hD0 : 1 ≤ D) (hD : D ≤ 4000000000) :
    Calls Tryz.prog 83 #[.agg #[.slice (some ⟨q.gx, 0, none⟩) n q.cx, .slice (some ⟨q.gb, 0, none⟩) m q.cb]] W fun e w' => e = .returned (.tuple #[]) ∧
      Lns n m w' B G (rs.set a { q with x := negL q.x, b := negL q.b }) ∧ Below B W w' ∧ GOk w' ∧ Kp (fun i => i = q.gx ∨ i = q.gb) W w' := by
  have hqM := List.mem_of_getElem? hqa
  have hqs := hW.size q hqM
  have hql := hW.low.2 q hqM
  refine (turn_any W B q.gx q.gb q.cx q.cb n m D q.x q.b hqs.1 hqs.2 hg hB hql.1 hql.2 (hW.rows q hqM).1 (hW.rows q hqM).2 (hW.own q hqM).1 hn hm hq.1 hq.2 hD0 hD).mono ?_
  rintro e w' ⟨he, hr1, hr2, hk⟩
  exact ⟨he, hW.write hqa hr1 hr2 (by simp [negL, hqs.1]) (by simp [negL, hqs.2]) hk, hW.below_write hqM hk, hg.keep hB (by intro i hi; omega) hk, hk⟩

set_option maxRecDepth 100000 in
set_option maxHeartbeats 1600000 in
theorem sweep_nil (w : World) (p : Option Addr) (cap c : Nat) :
    Calls Tryz.prog 81 #[.slice p 0 cap, .int .i64 c] w fun e w' => e = .returned (.bool false) ∧ w' = w := by
  go_enter Tryz.func81, Tryz.ntmps81
  go_wp2_with fail
  go_loopg [5] 0 (fun q s wr => wr = w)
  case atStart => rfl
  case round =>
    subst hrel
    go_wp2_with fail
    go_loopw [5, 6, 16] (fun s5 s6 s16 wx => s5 = .int .i64 (-1) ∧ s6 = .int .i64 0 ∧ s16 = .int .i64 0 ∧ wx = wr) (fun _ _ s16 _ => 0)
    case atStart => exact ⟨rfl, rfl, rfl, rfl⟩
    case round =>
      obtain ⟨rfl, rfl, rfl, rfl⟩ := hrel
      go_wp2_with fail
      go_ret
      exact ⟨rfl, rfl⟩
/-- No columns. -/
theorem echelon_zero (w : World) (v : Value) :
    Calls Tryz.prog 47 #[v, .int .i64 0] w fun e w' => e = .returned (.int .i64 0) ∧ w' = w := by
  go_enter Tryz.func47, Tryz.ntmps47
  go_wp2_with fail
  go_loopw [5, 14] (fun s5 s wr => s5 = .int .i64 0 ∧ s = .int .i64 0 ∧ wr = w) (fun _ s _ => 0)
  case atStart => exact ⟨rfl, rfl, rfl⟩
  case round =>
    obtain ⟨rfl, rfl, rfl⟩ := hrel
    go_wp2_with fail
    go_ret
    exact ⟨rfl, rfl⟩

/-- Where an echelon's walk stands. -/
structure Est (n m c E F : Nat) (L0 : List Ln.Ln) (w wr : World) (B G : Nat) (Dl Rl : List LR) : Prop where
  ech : Ln.Ech n m c (Ln.gb c F) L0 (Dl.map LR.ln) (Rl.map LR.ln)
  lns : Lns n m wr B G (Dl ++ Rl)
  below : Below B w wr
  ok : GOk wr
theorem Est.len {n m c E F : Nat} {L0 : List Ln.Ln} {w wr : World} {B G : Nat} {Dl Rl : List LR} (h : Est n m c E F L0 w wr B G Dl Rl) : Dl.length + Rl.length = L0.length := by
  have := h.ech.len
  simpa using this

set_option maxRecDepth 100000 in
set_option maxHeartbeats 1600000 in
theorem echelon_any (n m E F B G k cap : Nat) (w : World) (rs : List LR) (hk : rs.length = k) (hL : Lns n m w B G rs)
    (hF : ∀ r ∈ rs, Ln.Bd F r.ln) (hFE : F < 10 ^ E) (hE0 : 1 ≤ E) (hE : Ln.dg n E ≤ 4000000000) (hG : GOk w) (hB : Gb B) (hn : n ≤ 1000) (hm : m ≤ 1000) (hk1 : k ≤ 1000) (hcap : k ≤ cap) :
    Calls Tryz.prog 47 #[.slice (some ⟨G, 0, none⟩) k cap, .int .i64 n] w fun e w' => ∃ Dl Rl, e = .returned (.int .i64 Dl.length) ∧ Est n m n E F (rs.map LR.ln) w w' B G Dl Rl := by
  have hsz : ∀ l ∈ rs.map LR.ln, Ln.Sized n m l := by
    intro l hl
    obtain ⟨r, hr, rfl⟩ := List.mem_map.1 hl
    exact hL.size r hr
  have hbd : ∀ l ∈ rs.map LR.ln, Ln.Bd F l := by
    intro l hl
    obtain ⟨r, hr, rfl⟩ := List.mem_map.1 hl
    exact hF r hr
  have R0 : Est n m 0 E F (rs.map LR.ln) w w B G [] rs := ⟨Ln.Ech.start hsz hbd, hL, Below.refl _ _, hG⟩
  have HL0 : Hid ((rs.map LR.ln).length = k) := Lib.hid (by rw [List.length_map, hk])
  obtain ⟨L0, hL0⟩ : ∃ L0, L0 = rs.map LR.ln := ⟨_, rfl⟩
  rw [← hL0] at R0 HL0 ⊢
  clear hk hL hF hG hsz hbd hL0
  go_enter Tryz.func47, Tryz.ntmps47
  go_wp2_with fail
  go_loopw [5, 14] (fun s5 s14 wr => ∃ (c : Nat) (Dl Rl : List LR), c ≤ n ∧ s5 = .int .i64 Dl.length ∧ s14 = .int .i64 c ∧ Est n m c E F L0 w wr B G Dl Rl) (fun _ s14 _ => n - (intOf s14).toNat)
  case atStart => exact ⟨0, [], rs, Nat.zero_le _, rfl, rfl, R0⟩
  case round =>
    clear R0
    obtain ⟨c, Dl, Rl, hc, rfl, rfl, hS⟩ := hrel
    have HLk : Hid (Dl.length + Rl.length = k) := Lib.hid (by rw [hS.len, HL0.out])
    obtain ⟨d, hd⟩ : ∃ d, d = Dl.length := ⟨_, rfl⟩
    have HD := Lib.hid hd.symm
    rw [← hd]
    clear hd
    by_cases hcn : c < n
    · have hDD : Ln.dg (c + 1) E ≤ 4000000000 := Nat.le_trans (Ln.dg_mono (show c + 1 ≤ n by omega) E) hE
      have hD0 : 1 ≤ Ln.dg (c + 1) E := Ln.dg_pos hE0 _
      have hgb := Ln.gb_lt hFE c
      have hgb1 := Ln.gb_lt hFE (c + 1)
      have hFB : Ln.FB (Ln.gb c F) < 10 ^ (Ln.dg (c + 1) E) := Nat.lt_of_le_of_lt (Ln.FB_le_GB _) hgb1
      have hgbl : Ln.gb c F < 10 ^ (Ln.dg (c + 1) E) := Nat.lt_of_le_of_lt (Ln.F_le_GB _) hgb1
      obtain ⟨D, hDe⟩ : ∃ D, D = Ln.dg (c + 1) E := ⟨_, rfl⟩
      rw [← hDe] at hDD hD0 hFB hgbl
      have HBD := Lib.hid (And.intro hFB hgbl)
      clear hgb hgb1 hDe hFB hgbl
      by_cases hdk : d = k
      · have hR : Rl = [] := List.eq_nil_of_length_eq_zero (by have := HLk.out; have := HD.out; omega)
        subst hdk
        subst hR
        have hS' : Est n m (c + 1) E F L0 w wr B G Dl [] := ⟨(hS.ech.miss (by intro l hl; simp at hl)).more (Ln.F_le_GB _), hS.lns, hS.below, hS.ok⟩
        have i1 : (d : Int) ≤ (cap : Int) := by omega
        go_wp2_with (go_at_call 81; refine (sweep_nil _ _ _ _).mono ?_; rintro e w1 ⟨rfl, rfl⟩)
        all_goals
          go_roundw
          case rel => exact ⟨c + 1, Dl, [], by omega, by rw [HD.out], by go_num, hS'⟩
          case measure => (simp [intOf]) <;> omega
      · have hdl : d < k := by have := HLk.out; have := HD.out; omega
        have i1 : (d : Int) ≤ (k : Int) := by omega
        have i2 : (d : Int) ≤ (cap : Int) := by omega
        have i3 : ¬ cap = d := by omega
        have i4 : ¬ cap - d = 0 := by omega
        have SW := Lib.hid (sweep_any n m c (Ln.gb c F) D B G d (k - d) (cap - d) wr Dl Rl HD.out (by have := HLk.out; have := HD.out; omega) hcn hS.lns (fun r hr => hS.ech.bd _ (List.mem_append_right _ (List.mem_map.2 ⟨r, hr, rfl⟩))) HBD.out.1 hD0 hDD hS.ok hB hn hm (by omega) (by omega) (by omega))
        rw [Nat.mul_comm] at SW
        clear hdk
        go_upto_if 22 with (go_at_call 81; refine SW.out.mono ?_; rintro e w1 ⟨f, Rl', rfl, hl1, hse, hb1, hg1⟩)
        clear SW i1 i2 i3 i4
        have hsw := hS.ech.swept (Nat.le_of_lt hcn) hse
        have HDF := Lib.hid (fun l hl => hS.ech.bd l (List.mem_append_left (Rl.map LR.ln) hl))
        have hbw := hS.below.trans (hb1.mono (Nat.le_refl _))
        cases f with
        | false =>
          have hS' : Est n m (c + 1) E F L0 w w1 B G Dl Rl' := ⟨(hsw.miss (hse.no rfl)).more (Ln.FB_le_GB _), hl1, hbw, hg1⟩
          clear hS hse hsw
          go_wp2_with fail
          go_roundw
          case rel => exact ⟨c + 1, Dl, Rl', by omega, by rw [HD.out], by go_num, hS'⟩
          case measure => (simp [intOf]) <;> omega
        | true =>
          obtain ⟨t, R, rfl, ht0, hz⟩ : ∃ t R, Rl' = t :: R ∧ Ln.at_ c t.ln ≠ 0 ∧ ∀ l ∈ R.map LR.ln, Ln.at_ c l = 0 := by
            obtain ⟨top, R', e, h1, h2⟩ := hse.yes rfl
            cases Rl' with
            | nil => cases e
            | cons t R =>
              rw [List.map_cons] at e
              injection e with e1 e2
              exact ⟨t, R, rfl, e1 ▸ h1, e2 ▸ h2⟩
          have HZ := Lib.hid hz
          have hqa : (Dl ++ t :: R)[d]? = some t := at_tail (i := 0) HD.out rfl
          have g1 := hl1.xcell hqa
          have g2 := hl1.bcell hqa
          rw [Nat.mul_comm] at g1 g2
          unfold LR.xv at g1
          unfold LR.bv at g2
          have htM := List.mem_of_getElem? hqa
          have htr := hl1.rows t htM
          have hts := hl1.size t htM
          have htb : Ln.Bd (Ln.FB (Ln.gb c F)) t.ln := hse.bd t.ln (List.mem_cons_self ..)
          have gx1 := htr.1.cell (i := c) (by rw [hts.1]; exact hcn)
          obtain ⟨u, hu⟩ : ∃ u, u = Ln.at_ c t.ln := ⟨_, rfl⟩
          rw [show t.x.getD c 0 = u from hu.symm] at gx1
          have lu : Lt10 D u := hu ▸ at_lt10 htb HBD.out.1 c
          have SG := Lib.hid (fun W => sign_any u (lu.za (by omega) hD0).sz W)
          rw [← hu] at ht0
          have hs2 : u < 0 ∧ u.sign = -1 ∨ 0 < u ∧ u.sign = 1 := by
            rcases Int.lt_trichotomy u 0 with h | h | h
            · exact .inl ⟨h, Int.sign_eq_neg_one_of_neg h⟩
            · exact absurd h ht0
            · exact .inr ⟨h, Int.sign_eq_one_of_pos h⟩
          have TL := Lib.hid (fun W (hW : Lns n m W B G (Dl ++ t :: R)) (hg : GOk W) => turn_lns hW hqa hg hB hn hm (bd_lt10 htb HBD.out.1) hD0 hDD)
          have HE := Lib.hid hsw
          have HU := Lib.hid hu
          have hltG := hl1.lt
          have hlto := htr.1.lt
          have hltb := htr.2.lt
          clear hS hse hsw hz htr hts htb lu ht0 hu htM hb1
          obtain ⟨X, hX⟩ : ∃ X, X = tx u := ⟨_, rfl⟩
          rw [← hX] at gx1 SG
          clear hX
          have gxa := fun (o : Obj) => cellB (nb_alloc w1 o) gx1
          go_upto_if 33 with (go_at_call 82; refine (SG.out _).mono ?_; rintro e w2 ⟨rfl, hb2⟩)
          have hb3 : Below w1.heap.size w1 w2 := nb_trans (nb_alloc _ _) hb2
          have k1 : w2.cell? ⟨w1.heap.size, 0, none⟩ = some (.slice (some ⟨t.gx, 0, none⟩) n t.cx) := cellB hb2 (alloc1_0 _ _ _ _)
          have k2 : w2.cell? ⟨w1.heap.size, 1, none⟩ = some (.slice (some ⟨t.gb, 0, none⟩) m t.cb) := cellB hb2 (alloc1_1 _ _ _ _)
          have hl2 := hl1.nb hb3
          have hg2 := hg1.below hb3
          have hbB2 := hb3.mono hl1.base
          have HB1 := Lib.hid hbw
          clear hb2 gxa hbw
          obtain ⟨hb, hhb⟩ : ∃ hb, hb = w1.heap.size := ⟨_, rfl⟩
          have hlth : hb < w2.heap.size := hhb ▸ World.block_lt_of_cell? _ _ k1
          rw [← hhb] at k1 k2 ⊢
          have hb1t : t.gx < hb ∧ t.gb < hb := ⟨hhb ▸ hlto, hhb ▸ hltb⟩
          have HLB : Hid (∀ r ∈ Dl, r.gx < hb ∧ r.gb < hb) := Lib.hid (fun r hr => ⟨hhb ▸ (hl1.rows r (List.mem_append_left _ hr)).1.lt, hhb ▸ (hl1.rows r (List.mem_append_left _ hr)).2.lt⟩)
          clear hhb
          go_cut [34] (fun _ wx => ∃ x' b', Lns n m wx B G (Dl ++ { t with x := x', b := b' } :: R) ∧ Hid (Ln.Ech n m c (Ln.FB (Ln.gb c F)) L0 (Dl.map LR.ln) ((LR.ln { t with x := x', b := b' }) :: R.map LR.ln)) ∧ Hid (0 < Ln.at_ c (LR.ln { t with x := x', b := b' })) ∧
            wx.cell? ⟨hb, 0, none⟩ = some (.slice (some ⟨t.gx, 0, none⟩) n t.cx) ∧ wx.cell? ⟨hb, 1, none⟩ = some (.slice (some ⟨t.gb, 0, none⟩) m t.cb) ∧ Below B w wx ∧ GOk wx)
          case first =>
            rcases hs2 with ⟨hneg, hsg⟩ | ⟨hpos, hsg⟩
            · rw [hsg]
              go_wp2_with (go_at_call 83; (refine (TL.out _ hl2 hg2).mono ?_; rintro e w3 ⟨rfl, hl3, hb4, hg3, hkk⟩))
              go_meet
              have e2 : (Dl ++ t :: R).set d { t with x := negL t.x, b := negL t.b } = Dl ++ { t with x := negL t.x, b := negL t.b } :: R := by
                rw [List.set_append_right _ _ (by have := HD.out; omega), show d - Dl.length = 0 by have := HD.out; omega]
                rfl
              rw [e2] at hl3
              refine ⟨negL t.x, negL t.b, hl3, ?_, ?_, ?_, ?_, (HB1.out.trans hbB2).trans hb4, hg3⟩
              · exact HE.out.turned
              · have h1 : Ln.at_ c (Ln.turn t.ln) = - Ln.at_ c t.ln := Ln.neg_getD _ _
                have h2 := HU.out
                have h3 : 0 < Ln.at_ c (Ln.turn t.ln) := by omega
                exact h3
              · exact hkk.cell k1 (by show ¬ (hb = _ ∨ hb = _); omega)
              · exact hkk.cell k2 (by show ¬ (hb = _ ∨ hb = _); omega)
            · rw [hsg]
              go_wp2_with fail
              go_meet
              refine ⟨t.x, t.b, hl2, HE.out, ?_, k1, k2, HB1.out.trans hbB2, hg2⟩
              show 0 < Ln.at_ c t.ln
              rw [← HU.out]
              exact hpos
          case rest =>
            clear HE HU k1 k2 hl2 hg2 hbB2 HB1 hltG hlto hltb hb3 SG TL hs2 g1 g2 gx1 hqa hl1 hg1
            obtain ⟨x', b', hl, HE, HP, k1, k2, hbw, hg⟩ := hcut
            obtain ⟨t', ht'⟩ : ∃ t' : LR, t' = { t with x := x', b := b' } := ⟨_, rfl⟩
            rw [← ht'] at hl HE HP
            rw [show t.gx = t'.gx from by rw [ht'], show t.cx = t'.cx from by rw [ht']] at k1
            rw [show t.gb = t'.gb from by rw [ht'], show t.cb = t'.cb from by rw [ht']] at k2
            clear ht' hb1t
            clear t
            obtain ⟨t, rfl⟩ : ∃ t, t = t' := ⟨_, rfl⟩
            have R0 : Lns n m wc B G (part c t 0 Dl ++ t :: R) := by rw [part_zero]; exact hl
            have i2 : (d : Int) ≤ (cap : Int) := by omega
            clear hl
            go_wp2_with fail
            go_loopw [40] (fun s40 wx => ∃ i : Nat, i ≤ d ∧ s40 = .int .i64 i ∧ Lns n m wx B G (part c t i Dl ++ t :: R) ∧ wx.cell? ⟨hb, 0, none⟩ = some (.slice (some ⟨t.gx, 0, none⟩) n t.cx) ∧ wx.cell? ⟨hb, 1, none⟩ = some (.slice (some ⟨t.gb, 0, none⟩) m t.cb) ∧ Below B w wx ∧ GOk wx) (fun s40 _ => d - (intOf s40).toNat)
            case atStart => exact ⟨0, Nat.zero_le _, rfl, R0, k1, k2, hbw, hg⟩
            case round =>
              rename_i wq
              clear R0 k1 k2 hbw hg
              obtain ⟨i, hi, rfl, hl, k1, k2, hbw, hg⟩ := hrel
              by_cases hid : i < d
              · obtain ⟨q, hq⟩ : ∃ q, Dl[i]? = some q := ⟨Dl[i]'(by have := HD.out; omega), List.getElem?_eq_getElem _⟩
                have hqp := part_at c t i Dl hq
                have hqm := List.mem_of_getElem? hq
                have hpl := part_len c t i Dl (by have := HD.out; omega)
                have hqa : (part c t i Dl ++ t :: R)[i]? = some q := by rw [List.getElem?_append_left (by rw [hpl, HD.out]; exact hid)]; exact hqp
                have hta : (part c t i Dl ++ t :: R)[d]? = some t := by rw [List.getElem?_append_right (by rw [hpl, HD.out]; exact Nat.le_refl _), hpl, HD.out, Nat.sub_self]; rfl
                have g1 := hl.xcell hqa
                have g2 := hl.bcell hqa
                rw [Nat.mul_comm] at g1 g2
                unfold LR.xv at g1
                unfold LR.bv at g2
                have hqM := List.mem_of_getElem? hqa
                have htM := List.mem_of_getElem? hta
                have hqr := hl.rows q hqM
                have htr := hl.rows t htM
                have gx1 := hqr.1.cell (i := c) (by rw [(hl.size q hqM).1]; exact hcn)
                have gx2 := htr.1.cell (i := c) (by rw [(hl.size t htM).1]; exact hcn)
                obtain ⟨v, hv⟩ : ∃ v, v = Ln.at_ c q.ln := ⟨_, rfl⟩
                obtain ⟨u, hu⟩ : ∃ u, u = Ln.at_ c t.ln := ⟨_, rfl⟩
                rw [show q.x.getD c 0 = v from hv.symm] at gx1
                rw [show t.x.getD c 0 = u from hu.symm] at gx2
                have hbq : Ln.Bd (Ln.gb c F) q.ln := HDF.out _ (List.mem_map.2 ⟨q, hqm, rfl⟩)
                have hbt : Ln.Bd (Ln.FB (Ln.gb c F)) t.ln := HE.out.bd _ (List.mem_append_right _ (List.mem_cons_self ..))
                have hu0 : u ≠ 0 := by have := HP.out; omega
                have lv : Lt10 D v := hv ▸ at_lt10 hbq HBD.out.2 c
                have lu : Lt10 D u := hu ▸ at_lt10 hbt HBD.out.1 c
                have lk : Lt10 D (Ln.fq v u) := Nat.lt_of_le_of_lt (Ln.fq_abs hu0) lv
                obtain ⟨kk, hkk⟩ : ∃ kk, kk = Ln.fq v u := ⟨_, rfl⟩
                rw [← hkk] at lk
                obtain ⟨zz, hzz⟩ : ∃ zz, zz = v - u * kk := ⟨_, rfl⟩
                have WD := Lib.hid (fun W (hg : GOk W) => wdiv_fq v u (lv.za (by omega) hD0) (lu.za (by omega) hD0) hu0 W hg)
                rw [← hkk, ← hzz] at WD
                have LS := Lib.hid (fun (W : World) (hW : Lns n m W B G (part c t i Dl ++ t :: R)) (hg : GOk W) => less_lns hW hqa hta (by omega) hg hB hn hm (bd_lt10 hbq HBD.out.2) (bd_lt10 hbt HBD.out.1) lk hD0 hDD)
                have e2 : (part c t i Dl ++ t :: R).set i { q with x := subL kk q.x t.x, b := subL kk q.b t.b } = part c t (i + 1) Dl ++ t :: R := by
                  rw [List.set_append_left _ _ (by rw [hpl, HD.out]; exact hid), ← part_step c t i Dl hq]
                  congr 2
                  unfold LR.red
                  rw [← hv, ← hu, ← hkk]
                rw [e2] at LS
                have hqb := HLB.out q hqm
                have hne : ¬ (hb = q.gx ∨ hb = q.gb) := by omega
                have HNE := Lib.hid hne
                clear hv hu hkk hzz hqm hqp hqM htM hqr htr hbq hbt hu0 lv lu lk hpl e2 hqa hta hqb hne
                obtain ⟨X, hX⟩ : ∃ X, X = tx v := ⟨_, rfl⟩
                obtain ⟨Y, hY⟩ : ∃ Y, Y = tx u := ⟨_, rfl⟩
                obtain ⟨Z, hZ⟩ : ∃ Z, Z = tx kk := ⟨_, rfl⟩
                obtain ⟨Z', hZ'⟩ : ∃ Z, Z = tx zz := ⟨_, rfl⟩
                rw [← hX] at gx1 WD
                rw [← hY] at gx2 WD
                rw [← hZ] at WD LS
                rw [← hZ'] at WD
                clear hX hY hZ hZ'
                have KS : ∀ w1 w2 : World, Below w1.heap.size w1 w2 → (fun w' => Below wr.heap.size wr w' ∧ GOk w' ∧ Lns n m w' B G (part c t i Dl ++ t :: R) ∧ w'.cell? ⟨wr.heap.size, 0, none⟩ = some (.slice (some ⟨q.gx, 0, none⟩) n q.cx) ∧ w'.cell? ⟨wr.heap.size, 1, none⟩ = some (.slice (some ⟨q.gb, 0, none⟩) m q.cb) ∧ w'.cell? ⟨q.gx, c, none⟩ = some (.string X) ∧ w'.cell? ⟨t.gx, c, none⟩ = some (.string Y) ∧ w'.cell? ⟨hb, 0, none⟩ = some (.slice (some ⟨t.gx, 0, none⟩) n t.cx) ∧ w'.cell? ⟨hb, 1, none⟩ = some (.slice (some ⟨t.gb, 0, none⟩) m t.cb)) w1 → (fun w' => Below wr.heap.size wr w' ∧ GOk w' ∧ Lns n m w' B G (part c t i Dl ++ t :: R) ∧ w'.cell? ⟨wr.heap.size, 0, none⟩ = some (.slice (some ⟨q.gx, 0, none⟩) n q.cx) ∧ w'.cell? ⟨wr.heap.size, 1, none⟩ = some (.slice (some ⟨q.gb, 0, none⟩) m q.cb) ∧ w'.cell? ⟨q.gx, c, none⟩ = some (.string X) ∧ w'.cell? ⟨t.gx, c, none⟩ = some (.string Y) ∧ w'.cell? ⟨hb, 0, none⟩ = some (.slice (some ⟨t.gx, 0, none⟩) n t.cx) ∧ w'.cell? ⟨hb, 1, none⟩ = some (.slice (some ⟨t.gb, 0, none⟩) m t.cb)) w2 := fun w1 w2 hb h => ⟨nb_trans h.1 hb, h.2.1.below hb, h.2.2.1.nb hb, cellB hb h.2.2.2.1, cellB hb h.2.2.2.2.1, cellB hb h.2.2.2.2.2.1, cellB hb h.2.2.2.2.2.2.1, cellB hb h.2.2.2.2.2.2.2.1, cellB hb h.2.2.2.2.2.2.2.2⟩
                have KB : (fun w' => Below wr.heap.size wr w' ∧ GOk w' ∧ Lns n m w' B G (part c t i Dl ++ t :: R) ∧ w'.cell? ⟨wr.heap.size, 0, none⟩ = some (.slice (some ⟨q.gx, 0, none⟩) n q.cx) ∧ w'.cell? ⟨wr.heap.size, 1, none⟩ = some (.slice (some ⟨q.gb, 0, none⟩) m q.cb) ∧ w'.cell? ⟨q.gx, c, none⟩ = some (.string X) ∧ w'.cell? ⟨t.gx, c, none⟩ = some (.string Y) ∧ w'.cell? ⟨hb, 0, none⟩ = some (.slice (some ⟨t.gx, 0, none⟩) n t.cx) ∧ w'.cell? ⟨hb, 1, none⟩ = some (.slice (some ⟨t.gb, 0, none⟩) m t.cb)) (wr.alloc (.cells #[.slice (some ⟨q.gx, 0, none⟩) n q.cx, .slice (some ⟨q.gb, 0, none⟩) m q.cb] 90)) :=
                  ⟨nb_alloc _ _, hg.below (nb_alloc _ _), hl.nb (nb_alloc _ _), alloc1_0 _ _ _ _, alloc1_1 _ _ _ _, cellB (nb_alloc _ _) gx1, cellB (nb_alloc _ _) gx2, cellB (nb_alloc _ _) k1, cellB (nb_alloc _ _) k2⟩
                go_wp2_with fail
                go_region_held3 (fun w' => Below wr.heap.size wr w' ∧ GOk w' ∧ Lns n m w' B G (part c t i Dl ++ t :: R) ∧ w'.cell? ⟨wr.heap.size, 0, none⟩ = some (.slice (some ⟨q.gx, 0, none⟩) n q.cx) ∧ w'.cell? ⟨wr.heap.size, 1, none⟩ = some (.slice (some ⟨q.gb, 0, none⟩) m q.cb) ∧ w'.cell? ⟨q.gx, c, none⟩ = some (.string X) ∧ w'.cell? ⟨t.gx, c, none⟩ = some (.string Y) ∧ w'.cell? ⟨hb, 0, none⟩ = some (.slice (some ⟨t.gx, 0, none⟩) n t.cx) ∧ w'.cell? ⟨hb, 1, none⟩ = some (.slice (some ⟨t.gb, 0, none⟩) m t.cb))
                  (first | exact KS _ _ hb1 (by assumption) | exact KS _ _ (nb_drew _) KB)
                  (first | (go_at_call 53; refine (WD.out _ (And.left (And.right (by assumption : (fun w' => Below wr.heap.size wr w' ∧ GOk w' ∧ Lns n m w' B G (part c t i Dl ++ t :: R) ∧ w'.cell? ⟨wr.heap.size, 0, none⟩ = some (.slice (some ⟨q.gx, 0, none⟩) n q.cx) ∧ w'.cell? ⟨wr.heap.size, 1, none⟩ = some (.slice (some ⟨q.gb, 0, none⟩) m q.cb) ∧ w'.cell? ⟨q.gx, c, none⟩ = some (.string X) ∧ w'.cell? ⟨t.gx, c, none⟩ = some (.string Y) ∧ w'.cell? ⟨hb, 0, none⟩ = some (.slice (some ⟨t.gx, 0, none⟩) n t.cx) ∧ w'.cell? ⟨hb, 1, none⟩ = some (.slice (some ⟨t.gb, 0, none⟩) m t.cb)) _)))).mono ?_; rintro e w1 ⟨rfl, hb1⟩))
                have H12 : (fun w' => Below wr.heap.size wr w' ∧ GOk w' ∧ Lns n m w' B G (part c t i Dl ++ t :: R) ∧ w'.cell? ⟨wr.heap.size, 0, none⟩ = some (.slice (some ⟨q.gx, 0, none⟩) n q.cx) ∧ w'.cell? ⟨wr.heap.size, 1, none⟩ = some (.slice (some ⟨q.gb, 0, none⟩) m q.cb) ∧ w'.cell? ⟨q.gx, c, none⟩ = some (.string X) ∧ w'.cell? ⟨t.gx, c, none⟩ = some (.string Y) ∧ w'.cell? ⟨hb, 0, none⟩ = some (.slice (some ⟨t.gx, 0, none⟩) n t.cx) ∧ w'.cell? ⟨hb, 1, none⟩ = some (.slice (some ⟨t.gb, 0, none⟩) m t.cb)) w1 := by assumption
                obtain ⟨q0, q1, q2, q3, q4, -, -, q5, q6⟩ := H12
                clear KS KB hb1
                have hbB := hl.base
                have HBW := Lib.hid (hbw.trans (q0.mono hbB))
                clear hl k1 k2 hbw hg gx1 gx2 g1 g2 q0 hbB
                go_wp2_with (go_at_call 84; refine (LS.out _ q2 q1).mono ?_; rintro e w2 ⟨rfl, hl2, hb2, hg2, hkk2⟩)
                have q7 := hkk2.cell q5 HNE.out
                have q8 := hkk2.cell q6 HNE.out
                have HBW2 := Lib.hid (HBW.out.trans hb2)
                clear q1 q2 q3 q4 q5 q6 hb2
                go_wp2_with fail
                go_roundw
                case rel => exact ⟨i + 1, by omega, by go_num, hl2, q7, q8, HBW2.out, hg2⟩
                case measure => (simp [intOf]) <;> omega
              · obtain rfl : i = d := by omega
                have e1 : part c t i Dl = Dl.map (LR.red c t) := by rw [← HD.out]; exact part_all c t Dl
                rw [e1] at hl
                have e2 : (Dl.map (LR.red c t) ++ [t]).map LR.ln = (Dl.map LR.ln).map (Ln.lessq c t.ln) ++ [t.ln] := by
                  rw [List.map_append, List.map_map, List.map_map]; rfl
                have hh := HE.out.hit (F := Ln.gb c F) hcn HDF.out rfl HP.out HZ.out
                rw [← e2] at hh
                have hS' : Est n m (c + 1) E F L0 w wr B G (Dl.map (LR.red c t) ++ [t]) R := ⟨hh, by rw [List.append_assoc]; exact hl, hbw, hg⟩
                have HDl : Hid ((Dl.map (LR.red c t) ++ [t]).length = i + 1) := Lib.hid (by rw [List.length_append, List.length_map, HD.out]; rfl)
                clear e1 e2 hh hl k1 k2 hbw hg
                go_wp2_with fail
                go_roundw
                case rel => exact ⟨c + 1, Dl.map (LR.red c t) ++ [t], R, by omega, by rw [HDl.out]; go_num, by go_num, hS'⟩
                case measure => (simp [intOf]) <;> omega
    · obtain rfl : c = n := by omega
      go_wp2_with fail
      go_ret
      exact ⟨Dl, Rl, by rw [HD.out]; rfl, hS⟩
end Go.Proofs.YtmfkpmepgbjmkaaGreatDoor
