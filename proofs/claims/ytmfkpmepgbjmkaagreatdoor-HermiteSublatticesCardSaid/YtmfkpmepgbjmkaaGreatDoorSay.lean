/-
  WALKS: decimal.pieces' text.
-/
import Derived.Test.YtmfkpmepgbjmkaaGreatDoorText
import Derived.Deep.DeepAppendWide
set_option linter.unusedVariables false
set_option linter.unusedSimpArgs false
namespace Go.Proofs.YtmfkpmepgbjmkaaGreatDoor
open Go.RowKit

def LastUp (o : List Int) : Prop := ∃ r c, o = r ++ [c] ∧ 49 ≤ c
/-- The digits of the first i pieces are written. -/
structure Tx (n i : Nat) (ds o : List Int) : Prop where
  le : o.length ≤ 9 * i
  len : i < n → o.length = 9 * i
  asc : Asc o
  val : lv o = val (ds.take i)
  last : i = n → 0 < n → LastUp o
theorem Tx.start (n : Nat) (ds : List Int) (hn : 0 < n) : Tx n 0 ds [] :=
  ⟨by simp, fun _ => rfl, fun _ h => (by cases h), rfl, fun h => by omega⟩
theorem pow_nine (i : Nat) : (10 : Int) ^ (9 * i) = B9 ^ i := by
  rw [Int.pow_mul]
  rfl
theorem Tx.step {n i k : Nat} {ds o0 o : List Int} {y : Int} (h : Tx n i ds o0) (hi : i < n) (hl : ds.length = n) (hd : Dg (9 * i) k (ds.getD i 0) y o0 o) (hk : k ≤ 9)
    (hlast : i + 1 = n → y = 0 → LastUp o) (hy : y = 0) (h9 : i + 1 < n → k = 9) : Tx n (i + 1) ds o := by
  have hv := hd.val
  refine ⟨by rw [hd.len]; omega, fun h1 => by rw [hd.len, h9 h1]; omega, hd.asc, ?_, fun h1 _ => hlast h1 hy⟩
  rw [hy, Int.mul_zero, Int.add_zero, h.val, pow_nine] at hv
  rw [val_take_succ ds i (by omega)]
  exact hv
theorem last_step {y : Int} (o : List Int) (y0 : 0 < y) (h : y / 10 = 0) : LastUp (o ++ [48 + y % 10]) := ⟨o, _, rfl, by omega⟩
theorem lv_nonneg {o : List Int} (h : Asc o) : 0 ≤ lv o := by
  induction o with
  | nil => exact Int.le_refl 0
  | cons c r ih =>
    have h1 := ih (fun x hx => h x (List.mem_cons_of_mem _ hx))
    have h2 := h c (List.mem_cons_self ..)
    show 0 ≤ (c - 48) + 10 * lv r
    omega
def byt (o : List Int) : List UInt8 := o.map fun c => UInt8.ofNat c.toNat
theorem byt_toNat {c : Int} (h : 48 ≤ c ∧ c ≤ 57) : (UInt8.ofNat c.toNat).toNat = c.toNat := by
  rw [UInt8.toNat_ofNat']
  omega
theorem spell_rev {o : List Int} (h : Asc o) : spell 0 (byt o.reverse) = (lv o).toNat := by
  induction o with
  | nil => rfl
  | cons c r ih =>
    have h1 := ih (fun x hx => h x (List.mem_cons_of_mem _ hx))
    have h2 := h c (List.mem_cons_self ..)
    have h3 := lv_nonneg (o := r) (fun x hx => h x (List.mem_cons_of_mem _ hx))
    rw [List.reverse_cons, show byt (r.reverse ++ [c]) = byt r.reverse ++ [UInt8.ofNat c.toNat] from by simp [byt], spell_append, h1]
    show (lv r).toNat * 10 + ((UInt8.ofNat c.toNat).toNat - 48) = ((c - 48) + 10 * lv r).toNat
    rw [byt_toNat h2]
    omega
theorem text_of {o : List Int} (h : Asc o) (hl : LastUp o) : byt o.reverse = Lib.decDigits (lv o).toNat := by
  apply dec_of_spell
  · intro c hc
    obtain ⟨x, hx, rfl⟩ := List.mem_map.1 hc
    have h1 := h x (List.mem_reverse.1 hx)
    rw [byt_toNat h1]
    omega
  · obtain ⟨r, c, rfl, h1⟩ := hl
    refine ⟨UInt8.ofNat c.toNat, byt r.reverse, by simp [byt], ?_⟩
    rw [byt_toNat (h c (by simp))]
    omega
  · exact spell_rev h

theorem Tryz.info8 : (Tryz.prog.info? 5).map (fun i => (i.zero, i.size, i.bytes)) = some (some (.int .u8 0), 1, 1) := by kernel_rfl

theorem own_vrow {base n : Nat} {w : World} {v : Value} {o : List Int} (h : w.ownsRow base 5 1 v n (U8 o)) (hn : 0 < n) : ∃ g c, v = .slice (some ⟨g, 0, none⟩) n c ∧ n ≤ c ∧ c ≤ maxLen ∧ base ≤ g ∧ VRow 5 w g (U8 o) := by
  rcases h.2 with ⟨rfl, rfl⟩ | ⟨g, cap, cur, rfl, hb, hh, h1, h2, h3, h4⟩
  · omega
  · refine ⟨g, cap, rfl, h1, h2, hb, cur, hh, ?_⟩
    have := h.1
    rw [this]
    exact h4

theorem nb_grown {w w1 w2 : World} {base : Nat} {T : TypeId} {v : Value} {n : Nat} {xs : List Value} (hb : Below w.heap.size w w1) (ho : w1.ownsRow base T 1 v n xs) (hbase : w.heap.size ≤ base) (hg : w1.grownBy w2 v.ownBlock) : Below w.heap.size w w2 :=
  hb.trans ⟨hg.os, hg.tape, hg.output, hg.size, fun i hi => hg.block i (by have := hb.size; omega) (fun e => by have := (ho.lt i e.symm).1; omega)⟩

theorem run_back (w : World) (g n c : Nat) (o : List Int) (hv : VRow 5 w g (U8 o)) (hn : o.length = n) (ha : Asc o) :
    (convert 147 38 (.slice (some ⟨g, 0, none⟩) n c)).run Tryz.prog w = .ok (.string ⟨(byt o).toArray⟩) w := by
  have h := run_convert_bytes_back (P := Tryz.prog) w 147 38 5 ⟨g, 0, none⟩ c (byt o) Tryz.underlying147 Tryz.underlying5 Tryz.underlying38 (fun j hj => by
    have hj' : j < o.length := by simpa [byt] using hj
    rw [Lib.add_plain]
    simp only [Nat.zero_add]
    rw [hv.cell (by simpa [U8] using hj')]
    have h1 := ha _ (List.getElem_mem hj')
    have h2 := byt_toNat h1
    simp only [byt, U8, List.getElem?_map, List.getElem?_eq_getElem hj', Option.map_some, List.getElem_map]
    rw [h2]
    congr 2
    omega)
  rw [show (byt o).length = n from by simp [byt, hn]] at h
  exact h

set_option maxRecDepth 100000 in
set_option maxHeartbeats 1600000 in
theorem text_any (A : Option Addr) (n c : Nat) (ds : List Int) (w : World) (hr : Rd .u64 w A n ds) (hn : n ≤ 1000000000000) (hd : Dig ds) (ht : Top ds) :
    Calls Tryz.prog 135 #[.slice A n c] w fun e w' => e = .returned (.string (tn (val ds).toNat)) ∧ Below w.heap.size w w' := by
  have H1 := Lib.hid hr
  have HD := Lib.hid hd
  have HT := Lib.hid ht
  have L1 := Lib.hid hr.1
  clear hr hd ht
  obtain ⟨i0, hi0, hz0, hz1, hz2⟩ := info_parts Tryz.info8
  by_cases h0 : n = 0
  · have h0' : (n : Int) = 0 := by omega
    have e0 : Hid (ds = []) := List.eq_nil_of_length_eq_zero (L1.out.trans h0)
    go_enter Tryz.func135, Tryz.ntmps135
    go_wp2_with fail
    go_ret
    refine ⟨?_, nb_refl _⟩
    rw [e0.out]
    exact congrArg (fun b => Ending.returned (Value.string b)) (by decide +kernel)
  · have h0' : (n : Int) ≠ 0 := by omega
    go_enter Tryz.func135, Tryz.ntmps135
    go_wp2_with (at_make; refine wpList_make_own _ rfl _ _ 147 rfl w.heap.size 5 i0 (.int .u8 0) 1 Tryz.underlying147 hi0 hz0 hz1 .i64 .i64 _ (9 * n) rfl rfl (by go_num) (by rw [hz2]; omega) (by unfold maxLen; omega) (Nat.le_refl _) ?_; intro w1 hown hgrow)
    have hb1 : Below w.heap.size w w1 := ⟨hgrow.os, hgrow.tape, hgrow.output, hgrow.size, fun i hi => hgrow.block i hi (by simp)⟩
    have HO0 := Lib.hid hown
    clear hown hgrow
    go_loopw [3, 16] (fun sv si wr => ∃ (i : Nat) (o : List Int), i ≤ n ∧ si = .int .i64 i ∧ Hid (wr.ownsRow w.heap.size 5 1 sv o.length (U8 o)) ∧ Hid (Tx n i ds o) ∧ Below w.heap.size w wr) (fun _ si _ => n - (intOf si).toNat)
    case atStart => exact ⟨0, [], Nat.zero_le _, rfl, HO0.out, Tx.start n ds (by omega), hb1⟩
    case round =>
      obtain ⟨i, o0, hi, rfl, hown, htx, hb⟩ := hrel
      by_cases hlt : i < n
      · obtain ⟨g, hA, c1⟩ := (H1.out.nb hb).at_ (i := i) hlt
        subst hA
        obtain ⟨x, hx⟩ : ∃ x, x = ds.getD i 0 := ⟨_, rfl⟩
        rw [← hx] at c1
        obtain ⟨x0, x1⟩ : 0 ≤ x ∧ x < 1000000000 := by rw [hx]; exact HD.out.at_ _
        have htop : i + 1 = n → 0 < x := fun h => by
          rcases HT.out with h1 | h1
          · have := L1.out; rw [h1] at this; simp at this; omega
          · rw [L1.out, ← h, Nat.add_sub_cancel, ← hx] at h1
            omega
        have HX := Lib.hid hx
        have HTOP := Lib.hid htop
        clear hx htop
        obtain ⟨wo, hwo⟩ : ∃ wo, wo = wr := ⟨_, rfl⟩
        subst hwo
        go_wp2_with fail
        go_loopw [3, 5, 6] (fun sv sy sk wr => ∃ (k : Nat) (y : Int) (o : List Int), k ≤ 9 ∧ sy = .int .u64 y ∧ sk = .int .i64 k ∧ Hid (wr.ownsRow w.heap.size 5 1 sv o.length (U8 o)) ∧ Hid (Dg (9 * i) k x y o0 o) ∧ 0 ≤ y ∧ y < 1000000000 ∧ Hid (i + 1 = n → y = 0 → LastUp o) ∧ Below w.heap.size w wr) (fun _ _ sk _ => 9 - (intOf sk).toNat)
        case atStart => exact ⟨0, x, o0, by omega, rfl, rfl, hown, Dg.start (htx.out.len hlt) htx.out.asc x0 x1, x0, x1, (fun h1 h2 => absurd (HTOP.out h1) (by omega)), hb⟩
        case round =>
          obtain ⟨k, y, o, hk, rfl, rfl, hownr, hdg, y0, y1, hlast, hbr⟩ := hrel
          by_cases hgo : k < 9 ∧ (i + 1 < n ∨ 0 < y)
          · obtain ⟨hk9, hor⟩ := hgo
            have hlen : Hid (o.length = 9 * i + k) := hdg.out.len
            have hst : Hid (Dg (9 * i) (k + 1) x (y / 10) o0 (o ++ [48 + y % 10])) := hdg.out.step hk9
            have hls : Hid (i + 1 = n → y / 10 = 0 → LastUp (o ++ [48 + y % 10])) := fun h1 h2 => last_step o (by omega) h2
            have hk9' : (k : Int) < 9 := by omega
            by_cases hin : (i : Int) + 1 < (n : Int)
            · go_wp2_with (at_builtin; refine wpList_append_own _ rfl _ _ 147 rfl w.heap.size 5 i0 (.int .u8 0) 1 1 Tryz.underlying147 hi0 hz0 hz1 hz2 rfl (by decide) _ _ _ rfl (hownr.out.alloc _) ⟨wr.heap.size, 0, none⟩ 1 1 [.int .u8 (48 + y % 10)] rfl rfl (cell_one_new _ _ _) (by intro u hu; simp at hu; subst hu; rfl) (by have := hlen.out; unfold maxLen; omega) (by have := hlen.out; omega) (by have := hbr.size; simp; omega) ?_; intro v' w2 hown' hgrow' hnil')
              go_roundw
              case rel =>
                refine ⟨k + 1, _, _, by omega, rfl, by go_num, ?_, hst, by omega, by omega, hls, nb_grown (hbr.trans (nb_alloc _ _ |>.mono hbr.size)) (hownr.out.alloc _) (Nat.le_refl _) hgrow'⟩
                have := hown'
                rw [List.length_append]
                exact Lib.hid (by simpa [U8] using this)
              case measure => simp [intOf]; omega
            · have hy : 0 < y := by omega
              go_wp2_with (at_builtin; refine wpList_append_own _ rfl _ _ 147 rfl w.heap.size 5 i0 (.int .u8 0) 1 1 Tryz.underlying147 hi0 hz0 hz1 hz2 rfl (by decide) _ _ _ rfl (hownr.out.alloc _) ⟨wr.heap.size, 0, none⟩ 1 1 [.int .u8 (48 + y % 10)] rfl rfl (cell_one_new _ _ _) (by intro u hu; simp at hu; subst hu; rfl) (by have := hlen.out; unfold maxLen; omega) (by have := hlen.out; omega) (by have := hbr.size; simp; omega) ?_; intro v' w2 hown' hgrow' hnil')
              go_roundw
              case rel =>
                refine ⟨k + 1, _, _, by omega, rfl, by go_num, ?_, hst, by omega, by omega, hls, nb_grown (hbr.trans (nb_alloc _ _ |>.mono hbr.size)) (hownr.out.alloc _) (Nat.le_refl _) hgrow'⟩
                have := hown'
                rw [List.length_append]
                exact Lib.hid (by simpa [U8] using this)
              case measure => simp [intOf]; omega
          · have hdone : Hid (Tx n (i + 1) ds o) := by
              have hy : y = 0 := by
                rcases Nat.lt_or_ge k 9 with h | h
                · omega
                · obtain rfl : k = 9 := by omega
                  exact hdg.out.nine
              exact htx.out.step hlt L1.out (by rw [← HX.out]; exact hdg.out) hk hlast.out hy (fun h => by omega)
            have fin : ∀ t1 t2 : Value, True := fun _ _ => trivial
            rcases Nat.lt_or_ge k 9 with h9 | h9
            · have hk9' : (k : Int) < 9 := by omega
              have hin : ¬ (i : Int) + 1 < (n : Int) := by omega
              have hy : ¬ 0 < y := by omega
              go_wp2_with fail
              go_roundw
              case rel => exact ⟨i + 1, o, by omega, by go_num, hownr, hdone, hbr⟩
              case measure => simp [intOf]; omega
            · have hk9' : ¬ (k : Int) < 9 := by omega
              go_wp2_with fail
              go_roundw
              case rel => exact ⟨i + 1, o, by omega, by go_num, hownr, hdone, hbr⟩
              case measure => simp [intOf]; omega
      · obtain rfl : i = n := by omega
        have hlu := htx.out.last rfl (by omega)
        obtain ⟨g, cc, hsv, h1, h2, h3, hvr⟩ := own_vrow hown.out (by obtain ⟨r, c, rfl, _⟩ := hlu; simp)
        have HLU := Lib.hid hlu
        have HB3 := Lib.hid h3
        have HVR := Lib.hid hvr
        have hol : Hid (o0.length ≤ 9 * i) := htx.out.le
        subst hsv
        clear hlu hvr h1 h2 h3 hown
        obtain ⟨m, hm⟩ : ∃ m, m = o0.length := ⟨_, rfl⟩
        rw [← hm]
        have HM := Lib.hid hm
        clear hm
        go_wp2_with (go_at_call 156; refine (reverse_any _ g m cc o0 HM.out.symm HVR.out (by have := HM.out; have := hol.out; omega)).mono ?_; rintro e w2 ⟨rfl, hv2, hk2⟩; have HV2 := Lib.hid hv2; clear hv2; have hcv := run_back w2 g m cc o0.reverse HV2.out (by rw [List.length_reverse]; exact HM.out.symm) (fun x hx => htx.out.asc x (List.mem_reverse.1 hx)))
        go_ret
        refine ⟨?_, hk2.below (B := w.heap.size) hb.size (fun j hj => by rw [hj]; exact HB3.out) |> hb.trans⟩
        have h1 := text_of htx.out.asc HLU.out
        rw [htx.out.val, ← L1.out, List.take_length] at h1
        rw [h1]
        rfl
end Go.Proofs.YtmfkpmepgbjmkaaGreatDoor
