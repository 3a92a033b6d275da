/-
  WALKS: decimal.cut.
-/
import Derived.Test.YtmfkpmepgbjmkaaGreatDoorSay
set_option linter.unusedVariables false
set_option linter.unusedSimpArgs false
namespace Go.Proofs.YtmfkpmepgbjmkaaGreatDoor
open Go.RowKit

theorem spell_cons (acc : Nat) (c : UInt8) (r : List UInt8) : spell acc (c :: r) = spell (acc * 10 + (c.toNat - 48)) r := by
  have h := spell_append [c] r acc
  have h1 : spell acc [c] = acc * 10 + (c.toNat - 48) := rfl
  rw [h1, List.singleton_append] at h
  exact h
theorem spell_acc (l : List UInt8) : ∀ acc, spell acc l = acc * 10 ^ l.length + spell 0 l := by
  induction l with
  | nil =>
    intro acc
    rw [List.length_nil, Nat.pow_zero]
    exact (Nat.mul_one acc).symm
  | cons c r ih =>
    intro acc
    rw [spell_cons, spell_cons, ih, ih (0 * 10 + (c.toNat - 48)), List.length_cons, Nat.pow_succ]
    generalize 10 ^ r.length = p
    generalize c.toNat - 48 = d
    generalize spell 0 r = z
    grind
theorem spell_lt (l : List UInt8) (h : ∀ c ∈ l, 48 ≤ c.toNat ∧ c.toNat ≤ 57) : spell 0 l < 10 ^ l.length := by
  induction l with
  | nil => decide
  | cons c r ih =>
    have h1 := ih (fun x hx => h x (List.mem_cons_of_mem _ hx))
    have h2 := h c (List.mem_cons_self ..)
    rw [spell_cons, List.length_cons, spell_acc, Nat.pow_succ]
    have h3 : (0 * 10 + (c.toNat - 48)) * 10 ^ r.length ≤ 9 * 10 ^ r.length := Nat.mul_le_mul_right _ (by omega)
    omega
/-- The pieces behind place e are cut. -/
structure Cut (l : List UInt8) (e : Int) (o : List Int) : Prop where
  dig : Dig o
  val : val o = (spell 0 (l.drop e.toNat) : Nat)
  len : 0 < e → (9 * o.length : Int) = l.length - e
  le : 9 * o.length ≤ l.length + 8
theorem Cut.start (l : List UInt8) : Cut l l.length [] := ⟨fun _ h => (by cases h), by rw [show ((l.length : Nat) : Int).toNat = l.length by omega, List.drop_length]; rfl, fun _ => by simp, by simp⟩
def seg (l : List UInt8) (e : Nat) : List UInt8 := (l.drop (e - 9)).take (e - (e - 9))
theorem seg_len {l : List UInt8} {e : Nat} (h : e ≤ l.length) : (seg l e).length = e - (e - 9) := by
  simp [seg]
  omega
theorem seg_split (l : List UInt8) (e : Nat) (h : e ≤ l.length) : l.drop (e - 9) = seg l e ++ l.drop e := by
  rw [seg]
  conv => lhs; rw [← List.take_append_drop (e - (e - 9)) (l.drop (e - 9))]
  rw [List.drop_drop]
  congr 2
  omega
theorem Cut.step {l : List UInt8} {e : Nat} {o : List Int} (h : Cut l (e : Int) o) (h0 : 0 < e) (he : e ≤ l.length) (hd : ∀ c ∈ l, 48 ≤ c.toNat ∧ c.toNat ≤ 57) :
    Cut l ((e : Int) - 9) (o ++ [((spell 0 (seg l e) : Nat) : Int)]) := by
  have h1 := h.len (by omega)
  have hs : spell 0 (seg l e) < 10 ^ (seg l e).length := spell_lt _ (fun c hc => hd c (List.mem_of_mem_drop (List.mem_of_mem_take hc)))
  have hs2 : spell 0 (seg l e) < 1000000000 := by
    refine Nat.lt_of_lt_of_le hs ?_
    rw [seg_len he]
    exact Nat.pow_le_pow_right (by decide) (show e - (e - 9) ≤ 9 by omega)
  refine ⟨h.dig.append (fun d hd => by rw [List.mem_singleton.1 hd]; omega), ?_, fun h2 => by rw [List.length_append, List.length_singleton]; omega, by rw [List.length_append, List.length_singleton]; omega⟩
  rw [val_snoc, h.val, show ((e : Int) - 9).toNat = e - 9 by omega, seg_split l e he, spell_append, spell_acc _ (spell 0 (seg l e)), ← pow_nine]
  have h3 : (l.drop (e : Int).toNat).length = 9 * o.length := by
    rw [List.length_drop]
    omega
  rw [show ((e : Int)).toNat = e by omega] at h3 ⊢
  rw [h3, Int.natCast_add, Int.natCast_mul, Int.natCast_pow]
  generalize (10 : Int) ^ (9 * o.length) = p
  show (spell 0 (l.drop e) : Int) + p * _ = _ * p + _
  rw [Int.mul_comm p]
  omega

theorem run_bytes_seg (w : World) (l : List UInt8) (a b : Nat) (hab : a ≤ b) (hb : b ≤ l.length) :
    ∃ W c, (convert 38 147 (.string ((⟨l.toArray⟩ : ByteArray).extract a b))).run Tryz.prog w = .ok (.slice (some ⟨w.heap.size, 0, none⟩) (b - a) c) W ∧ Below w.heap.size w W ∧ W.heap.size = w.heap.size + 1 ∧
      ∀ j, j < b - a → W.cell? ⟨w.heap.size, j, none⟩ = some (.int .u8 (((l.drop a).take (b - a)).getD j 0).toNat) := by
  have hx : ((⟨l.toArray⟩ : ByteArray).extract a b).data.toList = (l.drop a).take (b - a) := by
    rw [ByteArray.data_extract, Array.toList_extract, List.extract_eq_take_drop]
  have hs : ((⟨l.toArray⟩ : ByteArray).extract a b).size = b - a := by
    rw [ByteArray.size_extract]
    show min b (l.toArray.size) - a = _
    simp
    omega
  have h := Lib.run_convert_string_bytes (P := Tryz.prog) w 38 147 5 ((⟨l.toArray⟩ : ByteArray).extract a b) Tryz.underlying38 Tryz.underlying147 Tryz.underlying5
  rw [hs] at h
  refine ⟨_, _, h, Lib.bytesWorld_below w _ _, Lib.bytesWorld_size w _ _, fun j hj => ?_⟩
  rw [Lib.bytesWorld_cell w _ _ j (by rw [hs]; exact hj), hx]

theorem spell_take (s : List UInt8) (j : Nat) (hj : j < s.length) : spell 0 (s.take (j + 1)) = spell 0 (s.take j) * 10 + ((s.getD j 0).toNat - 48) := by
  rw [List.take_add_one, spell_append, List.getElem?_eq_getElem hj, List.getD_eq_getElem?_getD, List.getElem?_eq_getElem hj]
  generalize spell 0 (s.take j) = x
  generalize s[j] = c
  rfl
theorem own_nb {base n : Nat} {T : TypeId} {w w1 : World} {v : Value} {xs : List Value} (h : w.ownsRow base T 1 v n xs) (hb : Below w.heap.size w w1) : w1.ownsRow base T 1 v n xs :=
  h.kept (row := none) ⟨hb.os, hb.tape, hb.output, hb.size, fun k hk _ => hb.block k hk⟩ (by
    rcases h.2 with ⟨rfl, rfl⟩ | ⟨g, cap, cur, rfl, _⟩
    · exact .inl rfl
    · exact .inr (by simp [Value.ownBlock]))
theorem trims_parts {ds : List Int} {m : Nat} (ht : Trims ds m) : Top (ds.take m) ∧ val (ds.take m) = val ds ∧ (ds.take m).length = m := by
  have hl : (ds.take m).length = m := by rw [List.length_take, Nat.min_eq_left ht.1]
  refine ⟨?_, ?_, hl⟩
  · unfold Top
    rw [hl]
    rcases ht.2.2 with h0 | h0
    · exact .inl (by rw [h0]; rfl)
    · right
      rcases Nat.eq_zero_or_pos m with h1 | h1
      · subst h1
        rw [List.getD_eq_getElem?_getD, List.getElem?_take_eq_none (by omega)]
        simp at h0 ⊢
        have := ht.2.1 0 (by omega)
        rcases Nat.eq_zero_or_pos ds.length with h2 | h2
        · have : ds = [] := List.eq_nil_of_length_eq_zero h2
          subst this
          simp at h0
        · exact absurd (by simpa using this h2) h0
      · rw [List.getD_eq_getElem?_getD, List.getElem?_take_of_lt (by omega), ← List.getD_eq_getElem?_getD]
        exact h0
  · have h1 := val_take_drop ds m ht.1
    have h2 : val (ds.drop m) = 0 := val_all_zero (fun d hd => by
      obtain ⟨i, hi, rfl⟩ := List.getElem_of_mem hd
      rw [List.getElem_drop]
      have h3 := ht.2.1 (m + i) (by omega) (by rw [List.length_drop] at hi; omega)
      rw [List.getD_eq_getElem?_getD, List.getElem?_eq_getElem (by rw [List.length_drop] at hi; omega)] at h3
      simpa using h3)
    rw [h2] at h1
    simpa using h1.symm
theorem own_trimmed {base n c t : Nat} {w : World} {A : Option Addr} {ds : List Int} (h : w.ownsRow base 166 1 (.slice A n c) n (U ds)) (ht : Trims ds t) (hd : Dig ds) :
    Pc base w (.slice A t c) (ds.take t) ∧ val (ds.take t) = val ds ∧ (ds.take t).length = t := by
  obtain ⟨h1, h2, h3⟩ := trims_parts ht
  have hn : ds.length = n := by have := h.1; simpa [U] using this
  refine ⟨⟨?_, hd.take t, h1⟩, h2, h3⟩
  rw [h3]
  refine ⟨by simp [U, Nat.min_eq_left ht.1], ?_⟩
  rcases h.2 with ⟨hv, rfl⟩ | ⟨g, cap, cur, hv, hb, hh, q1, q2, q3, q4⟩
  · injection hv with e1 e2 e3
    subst e1 e3
    have : t = 0 := by have := ht.1; omega
    subst this
    exact .inl ⟨rfl, rfl⟩
  · injection hv with e1 e2 e3
    subst e1 e3
    have htn : t ≤ n := by have := ht.1; omega
    refine .inr ⟨g, c, cur, rfl, hb, hh, by omega, q2, q3, ?_⟩
    rw [show U (ds.take t) = (U ds).take t from by simp [U, List.map_take], ← q4, List.take_take]
    congr 1
    omega
/-- A row of digits of one's own. -/
def CutPost (u : Nat) (k : Nat) (w : World) (e : Ending) (w' : World) : Prop :=
  ∃ v ds, e = .returned v ∧ Pc w.heap.size w' v ds ∧ val ds = (u : Int) ∧ ds.length ≤ k ∧ Below w.heap.size w w'

set_option maxRecDepth 100000 in
set_option maxHeartbeats 1600000 in
theorem cut_any (u : Nat) (w : World) (hz : (tn u).size ≤ 1000000000000) :
    Calls Tryz.prog 132 #[.string (tn u)] w (CutPost u ((tn u).size / 9 + 1) w) := by
  obtain ⟨i0, hi0, hz0, hz1, hz2⟩ := info_parts Tryz.infoU
  obtain ⟨l, hl⟩ : ∃ l, l = Lib.decDigits u := ⟨_, rfl⟩
  have hx : tn u = ⟨l.toArray⟩ := by rw [hl]; rfl
  have hd : ∀ c ∈ l, 48 ≤ c.toNat ∧ c.toNat ≤ 57 := by rw [hl]; exact dec_digit u
  have hsp : spell 0 l = u := by rw [hl]; exact spell_dec u
  have hsz : (tn u).size = l.length := by rw [hx]; rfl
  have HL := Lib.hid hl
  have HD := Lib.hid hd
  have HSP := Lib.hid hsp
  rw [hsz] at hz ⊢
  rw [hx]
  have HX := Lib.hid hx
  have hs2 : (⟨l.toArray⟩ : ByteArray).size = l.length := rfl
  clear hl hd hsp hx hsz
  obtain ⟨x, hx⟩ : ∃ x, x = (⟨l.toArray⟩ : ByteArray) := ⟨_, rfl⟩
  rw [← hx] at hs2 ⊢
  have HX2 := Lib.hid hx
  clear hx
  go_enter Tryz.func132, Tryz.ntmps132
  go_wp2_with (at_make; refine wpList_make_own _ rfl _ _ 171 rfl w.heap.size 166 i0 (.int .u64 0) 1 Tryz.underlying171 hi0 hz0 hz1 .i64 .i64 _ (l.length / 9 + 1) rfl rfl (by first | go_num | (rw [hs2]; go_num) | (go_loud (rw [hs2]; trace_state; fail))) (by rw [hz2]; omega) (by unfold maxLen; omega) (Nat.le_refl _) ?_; intro w1 hown hgrow)
  have hb1 : Below w.heap.size w w1 := ⟨hgrow.os, hgrow.tape, hgrow.output, hgrow.size, fun i hi => hgrow.block i hi (by simp)⟩
  have HO0 := Lib.hid hown
  clear hown hgrow
  go_loopw [3, 4] (fun sv se wr => ∃ (e : Int) (o : List Int), -9 ≤ e ∧ e ≤ (l.length : Int) ∧ se = .int .i64 e ∧ Hid (wr.ownsRow w.heap.size 166 1 sv o.length (U o)) ∧ Hid (Cut l e o) ∧ Below w.heap.size w wr) (fun _ se _ => (intOf se + 9).toNat)
  case atStart => exact ⟨_, [], by omega, Int.le_refl _, rfl, HO0.out, Cut.start l, hb1⟩
  case round =>
    obtain ⟨e, o, he0, he1, rfl, hown, hc, hb⟩ := hrel
    by_cases hpos : 0 < e
    · obtain ⟨a, ha⟩ : ∃ a, a = e.toNat - 9 := ⟨_, rfl⟩
      obtain ⟨en, hen⟩ : ∃ en : Nat, (en : Int) = e := ⟨e.toNat, by omega⟩
      subst hen
      obtain ⟨W, cc, hcv, hbW, -, hcell⟩ := run_bytes_seg wr l a en (by omega) (by omega)
      have ham : max 0 ((en : Int) - 9) = (a : Int) := by omega
      have HA := Lib.hid ha
      have HCELL := Lib.hid hcell
      have HBW := Lib.hid hbW
      rw [← HX2.out] at hcv
      clear ha hcell hbW
      obtain ⟨s, hs⟩ : ∃ s, s = seg l en := ⟨_, rfl⟩
      obtain ⟨m, hm⟩ : ∃ m, m = en - a := ⟨_, rfl⟩
      have hsl : s.length = m := by rw [hs, seg_len (by omega), hm, HA.out]; omega
      have hcell : ∀ j, j < m → W.cell? ⟨wr.heap.size, j, none⟩ = some (.int .u8 ((s.getD j 0).toNat : Nat)) := fun j hj => by
        rw [HCELL.out j (by omega), hs, seg]
        congr 3
        rw [HA.out]
        rfl
      have hdig : ∀ c ∈ s, 48 ≤ c.toNat ∧ c.toNat ≤ 57 := fun c hc => HD.out c (by rw [hs] at hc; exact List.mem_of_mem_drop (List.mem_of_mem_take hc))
      have hm9 : m ≤ 9 := by rw [hm, HA.out]; omega
      have HS := Lib.hid hs
      have HSL := Lib.hid hsl
      have HC2 := Lib.hid hcell
      have HDG := Lib.hid hdig
      rw [← hm] at hcv
      clear hs hsl hcell hdig HCELL hm
      go_wp2_with fail
      obtain ⟨wo, hwo⟩ : ∃ wo, wo = wr := ⟨_, rfl⟩
      subst hwo
      go_loopw [5, 27] (fun sn sj wq => ∃ (j acc : Nat), j ≤ m ∧ sn = .int .u64 acc ∧ sj = .int .i64 j ∧ Hid (acc = spell 0 (s.take j)) ∧ acc < 1000000000 ∧ wq = W) (fun _ sj _ => m - (intOf sj).toNat)
      case atStart => exact ⟨0, 0, Nat.zero_le _, rfl, rfl, rfl, by decide, rfl⟩
      case round =>
        obtain ⟨j, acc, hj, rfl, rfl, hacc, hlt9, rfl⟩ := hrel
        by_cases hjm : j < m
        · have c1 := HC2.out j hjm
          have hmem : s.getD j 0 ∈ s := by
            rw [List.getD_eq_getElem?_getD, List.getElem?_eq_getElem (by rw [HSL.out]; exact hjm)]
            exact List.getElem_mem _
          obtain ⟨d0, d1⟩ := HDG.out _ hmem
          have hst := spell_take s j (by rw [HSL.out]; exact hjm)
          rw [← hacc.out] at hst
          have hlt : spell 0 (s.take (j + 1)) < 10 ^ (s.take (j + 1)).length := spell_lt _ (fun c hc => HDG.out c (List.mem_of_mem_take hc))
          have hlt2 : spell 0 (s.take (j + 1)) < 1000000000 := by
            refine Nat.lt_of_lt_of_le hlt ?_
            exact Nat.pow_le_pow_right (by decide) (show _ ≤ 9 by rw [List.length_take, HSL.out]; omega)
          obtain ⟨cn, hcn⟩ : ∃ cn, cn = (s.getD j 0).toNat := ⟨_, rfl⟩
          rw [← hcn] at c1 d0 d1 hst
          rw [hst] at hlt2
          have HST := Lib.hid hst
          clear hst hcn hlt hmem
          go_wp2_with fail
          go_roundw
          case rel => exact ⟨j + 1, acc * 10 + (cn - 48), by omega, by go_num, by go_num, HST.out.symm, hlt2, trivial⟩
          case measure => simp [intOf]; omega
        · obtain rfl : j = m := by omega
          have hown1 := Lib.hid (own_nb hown.out HBW.out)
          have hacc9 : acc = spell 0 (seg l en) := by rw [hacc.out, ← HS.out, ← HSL.out, List.take_length]
          have hst : Hid (Cut l ((en : Int) - 9) (o ++ [(acc : Int)])) := by
            rw [hacc9]
            exact hc.out.step (by omega) (by omega) HD.out
          have hlen : Hid (9 * o.length ≤ l.length + 8) := hc.out.le
          have hsz2 : Hid (w.heap.size ≤ wr.heap.size) := Nat.le_trans hb.size HBW.out.size
          clear hacc9
          go_wp2_with (at_builtin; refine wpList_append_own _ rfl _ _ 171 rfl w.heap.size 166 i0 (.int .u64 0) 1 8 Tryz.underlying171 hi0 hz0 hz1 hz2 rfl (by decide) _ _ _ rfl (hown1.out.alloc _) ⟨wr.heap.size, 0, none⟩ 1 1 [.int .u64 acc] rfl rfl (cell_one_new _ _ _) (by intro u hu; simp at hu; subst hu; rfl) (by have := hlen.out; unfold maxLen; omega) (by have := hlen.out; omega) (by have := hsz2.out; simp; omega) ?_; intro v' w2 hown' hgrow' hnil')
          go_roundw
          case rel =>
            refine ⟨(en : Int) - 9, _, by omega, by omega, rfl, ?_, hst, nb_grown ((hb.trans (HBW.out.mono hb.size)).trans (nb_alloc _ _ |>.mono hsz2.out)) (hown1.out.alloc _) (Nat.le_refl _) hgrow'⟩
            have := hown'
            rw [List.length_append]
            exact Lib.hid (by simpa [U] using this)
          case measure => simp [intOf]; omega
    · obtain ⟨A, c, rfl, hn1, hn2, hrd⟩ := own_rd hown.out
      have HN := Lib.hid hn1
      have HR := Lib.hid hrd
      have HLE : Hid (9 * o.length ≤ l.length + 8) := hc.out.le
      clear hn1 hn2 hrd
      obtain ⟨m, hm⟩ : ∃ m, m = o.length := ⟨_, rfl⟩
      rw [← hm] at hown ⊢
      rw [← hm] at HN HR
      have HM := Lib.hid hm
      clear hm
      go_wp2_with fail
      go_wp2_with (go_at_call 138; refine (trim_any A m c o _ HR.out HN.out (by have := HM.out; have := HLE.out; omega)).mono ?_; rintro e w1 ⟨t, ht, rfl, rfl⟩)
      go_ret
      obtain ⟨h1, h2, h3⟩ := own_trimmed hown.out ht hc.out.dig
      refine ⟨_, o.take t, rfl, h1, ?_, ?_, hb⟩
      · rw [h2, hc.out.val, show e.toNat = 0 by omega, List.drop_zero, HSP.out]
      · rw [h3]
        have := ht.1
        have := HLE.out
        omega
end Go.Proofs.YtmfkpmepgbjmkaaGreatDoor
