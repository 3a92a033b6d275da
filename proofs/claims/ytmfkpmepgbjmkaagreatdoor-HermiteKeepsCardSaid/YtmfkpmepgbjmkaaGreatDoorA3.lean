/-
  WALKS: decimal.pieces' compare.
  WALKS: decimal.pieces' times: the product, digit by digit.
  WALKS: decimal.pieces' small (a division by one digit) and scaled.
  WALKS: decimal.pieces' text, and slices.Reverse of bytes.
  WALKS: decimal.pieces' text.
  WALKS: decimal.cut.
-/
import Derived.Test.YtmfkpmepgbjmkaaGreatDoorA2
import Derived.Deep.OwnRows
import Derived.Maps.AppendAt
import Derived.RegionTactic
import Derived.Deep.DeepAppendWide
set_option linter.unusedVariables false
set_option linter.unusedSimpArgs false
namespace Go.Proofs.YtmfkpmepgbjmkaaGreatDoor
open Go.RowKit

/-- How numbers compare. -/
def cmp (a b : Int) : Int := if a < b then -1 else if b < a then 1 else 0

set_option maxRecDepth 100000 in
set_option maxHeartbeats 800000 in
theorem compare_any (A A' : Option Addr) (n m c c' : Nat) (ds es : List Int) (w : World) (hr : Rd .u64 w A n ds) (hs : Rd .u64 w A' m es)
    (hn : n ≤ 4611686018427387904) (hm : m ≤ 4611686018427387904) (hd : Dig ds) (he : Dig es) (td : Top ds) (te : Top es) :
    Calls Tryz.prog 133 #[.slice A n c, .slice A' m c'] w fun e w' => e = .returned (.int .i64 (cmp (val ds) (val es))) ∧ Below w.heap.size w w' := by
  have H1 := Lib.hid hr
  have H2 := Lib.hid hs
  have HD := Lib.hid (And.intro hd (And.intro he (And.intro td te)))
  have l1 := hr.1
  have l2 := hs.1
  clear hr hs hd he td te
  rcases Nat.lt_trichotomy n m with h | h | h
  · have HC : Hid (cmp (val ds) (val es) = -1) := by
      obtain ⟨hd, he, td, te⟩ := HD.out
      have := val_longer hd he te (by omega)
      unfold cmp
      exact if_pos this
    have h' : (n : Int) < (m : Int) := by omega
    clear l1 l2
    go_enter Tryz.func133, Tryz.ntmps133
    go_wp2
    go_ret
    refine ⟨ret_int ?_, nb_refl _⟩
    rw [HC.out]
    omega
  · have L1 := Lib.hid l1
    have L2 := Lib.hid l2
    subst h
    clear l1 l2
    go_enter Tryz.func133, Tryz.ntmps133
    go_wp2_with fail
    go_loopw [5] (fun s wr => ∃ i : Int, -1 ≤ i ∧ i < (n : Int) ∧ s = .int .i64 i ∧ Hid (ds.drop (i + 1).toNat = es.drop (i + 1).toNat) ∧ Below w.heap.size w wr) (fun s _ => (intOf s + 1).toNat)
    case atStart =>
      refine ⟨(n : Int) - 1, by omega, by omega, rfl, ?_, nb_refl _⟩
      show ds.drop ((n : Int) - 1 + 1).toNat = es.drop ((n : Int) - 1 + 1).toNat
      rw [List.drop_eq_nil_of_le (by have := L1.out; omega), List.drop_eq_nil_of_le (by have := L2.out; omega)]
    case round =>
      obtain ⟨i, hi0, hi1, rfl, hdr, hb⟩ := hrel
      by_cases h0 : 0 ≤ i
      · obtain ⟨g, hA, c1⟩ := (H1.out.nb hb).at_ (i := i.toNat) (by omega)
        obtain ⟨g', hA', c2⟩ := (H2.out.nb hb).at_ (i := i.toNat) (by omega)
        subst hA hA'
        obtain ⟨x, hx⟩ : ∃ x, x = ds.getD i.toNat 0 := ⟨_, rfl⟩
        obtain ⟨y, hy⟩ : ∃ y, y = es.getD i.toNat 0 := ⟨_, rfl⟩
        rw [← hx] at c1
        rw [← hy] at c2
        have bx : 0 ≤ x ∧ x < 1000000000 := hx ▸ HD.out.1.at_ _
        have by_ : 0 ≤ y ∧ y < 1000000000 := hy ▸ HD.out.2.1.at_ _
        obtain ⟨bx0, bx1⟩ := bx
        obtain ⟨by0, by1⟩ := by_
        have HX := Lib.hid hx
        have HY := Lib.hid hy
        clear hx hy
        have e1 : (i + 1).toNat = i.toNat + 1 := by omega
        have hdr' : Hid (ds.drop (i.toNat + 1) = es.drop (i.toNat + 1)) := by rw [e1] at hdr; exact hdr
        clear e1
        rcases Int.lt_trichotomy x y with hxy | hxy | hxy
        · have HC : Hid (cmp (val ds) (val es) = -1) := by
            obtain ⟨hd, he, td, te⟩ := HD.out
            have h1 := L1.out
            have h2 := L2.out
            have := val_differ hd he (by omega) (i := i.toNat) (by omega) (by rw [← HX.out, ← HY.out]; exact hxy) hdr'.out
            unfold cmp
            exact if_pos this
          go_wp2_with fail
          go_quiet (fail)
          go_wp2_with fail
          go_ret
          exact ⟨ret_int HC.out.symm, nb_trans hb (nb_drewN _ _)⟩
        · subst hxy
          have hlt : ¬ x < x := by omega
          go_wp2_with fail
          go_quiet (fail)
          go_wp2_with fail
          go_quiet (fail)
          go_wp2_with fail
          go_roundw
          case rel =>
            refine ⟨i - 1, by omega, by omega, rfl, ?_, nb_trans hb (nb_drewN _ _)⟩
            show ds.drop (i - 1 + 1).toNat = es.drop (i - 1 + 1).toNat
            have h1 := L1.out
            have h2 := L2.out
            rw [show i - 1 + 1 = i by omega, List.drop_eq_getElem_cons (by omega), List.drop_eq_getElem_cons (show i.toNat < es.length by omega), hdr'.out]
            have hx := HX.out
            have hy := HY.out
            rw [List.getD_eq_getElem?_getD, List.getElem?_eq_getElem (by omega)] at hx hy
            simp only [Option.getD_some] at hx hy
            rw [← hx, ← hy]
          case measure => simp [intOf]; omega
        · have HC : Hid (cmp (val ds) (val es) = 1) := by
            obtain ⟨hd, he, td, te⟩ := HD.out
            have h1 := L1.out
            have h2 := L2.out
            have := val_differ he hd (by omega) (i := i.toNat) (by omega) (by rw [← HX.out, ← HY.out]; exact hxy) hdr'.out.symm
            unfold cmp
            rw [if_neg (by omega)]
            exact if_pos this
          have hlt : ¬ x < y := by omega
          go_wp2_with fail
          go_quiet (fail)
          go_wp2_with fail
          go_quiet (fail)
          go_wp2_with fail
          go_ret
          exact ⟨ret_int HC.out.symm, nb_trans hb (nb_trans (nb_drewN _ _) (nb_drewN _ _))⟩
      · obtain rfl : i = -1 := by omega
        have HC : Hid (cmp (val ds) (val es) = 0) := by
          have : ds = es := hdr.out
          rw [this]
          unfold cmp
          rw [if_neg (by omega), if_neg (by omega)]
          exact rfl
        go_wp2_with fail
        go_ret
        exact ⟨ret_int HC.out.symm, hb⟩
  · have HC : Hid (cmp (val ds) (val es) = 1) := by
      obtain ⟨hd, he, td, te⟩ := HD.out
      have := val_longer he hd td (by omega)
      unfold cmp
      rw [if_neg (by omega)]
      exact if_pos this
    have h' : (m : Int) < (n : Int) := by omega
    clear l1 l2
    go_enter Tryz.func133, Tryz.ntmps133
    go_wp2
    go_ret
    refine ⟨ret_int ?_, nb_refl _⟩
    rw [HC.out]
    omega
end Go.Proofs.YtmfkpmepgbjmkaaGreatDoor

namespace Go.Proofs.YtmfkpmepgbjmkaaGreatDoor
open Go.RowKit

def U (ds : List Int) : List Value := ds.map fun d => Value.int .u64 d
/-- A block that is just these digits. -/
def UB (w : World) (g : Nat) (ds : List Int) : Prop := w.heap[g]? = some (.cells (U ds).toArray 166 (0, 0))
section
variable {w w1 : World} {g : Nat} {ds : List Int}
theorem UB.lt (h : UB w g ds) : g < w.heap.size := (Array.getElem?_eq_some_iff.1 h).1
theorem UB.cell (h : UB w g ds) {i : Nat} (hi : i < ds.length) : w.cell? ⟨g, i, none⟩ = some (.int .u64 (ds.getD i 0)) := by
  unfold UB at h
  simp only [World.cell?, h]
  simp [U, List.getD_eq_getElem?_getD, List.getElem?_eq_getElem hi]
theorem UB.frozen (h : UB w g ds) (i : Nat) : w.frozen? ⟨g, i, none⟩ = false := by
  unfold UB at h
  simp [World.frozen?, h]
theorem UB.set (h : UB w g ds) (i : Nat) (x : Int) : UB (w.setCell ⟨g, i, none⟩ (.int .u64 x)) g (ds.set i x) := by
  unfold UB at h ⊢
  simp [World.setCell, Array.getElem?_modify, h, U, List.map_set]
theorem UB.of_block (h : UB w g ds) (hb : w1.heap[g]? = w.heap[g]?) : UB w1 g ds := hb.trans h
theorem UB.made (w : World) (n : Nat) : UB (w.alloc (.cells (madeCells #[Value.int .u64 0] n) 166)) w.heap.size (List.replicate n 0) := by
  unfold UB
  rw [heap_alloc_new]
  congr 2
  rw [← Array.toArray_toList (xs := madeCells #[Value.int .u64 0] n), toList_madeCells_one]
  simp [U]
end

/-- A row of digits of one's own, with no zero at its end. -/
structure Pc (base : Nat) (w : World) (v : Value) (ds : List Int) : Prop where
  own : w.ownsRow base 166 1 v ds.length (U ds)
  dig : Dig ds
  top : Top ds
theorem own_rd {base n : Nat} {w : World} {v : Value} {ds : List Int} (h : w.ownsRow base 166 1 v n (U ds)) : ∃ A c, v = .slice A n c ∧ n ≤ c ∧ c ≤ maxLen ∧ Rd .u64 w A n ds := by
  have hl : ds.length = n := by have := h.1; simpa [U] using this
  rcases h.2 with ⟨rfl, rfl⟩ | ⟨g, cap, cur, rfl, hb, hh, h1, h2, h3, h4⟩
  · exact ⟨none, 0, rfl, Nat.le_refl _, by simp [maxLen], hl, fun i hi => by omega⟩
  · refine ⟨_, cap, rfl, h1, h2, hl, fun i hi => ⟨g, rfl, ?_⟩⟩
    have h5 : (cur.toList.take (n * 1))[i]? = (U ds)[i]? := by rw [h4]
    rw [List.getElem?_take_of_lt (by omega)] at h5
    simp only [World.cell?, hh]
    simp only [Option.isSome_none, Bool.false_eq_true, if_false]
    rw [← Array.getElem?_toList, h5]
    simp [U, List.getD_eq_getElem?_getD, List.getElem?_eq_getElem (show i < ds.length by omega)]
/-- Behind trim: what is left of a block of digits. -/
theorem UB.trimmed {base : Nat} {w : World} {g m : Nat} {ds : List Int} (h : UB w g ds) (hb : base ≤ g) (ht : Trims ds m) (hd : Dig ds) (hm : ds.length ≤ maxLen) :
    Pc base w (.slice (some ⟨g, 0, none⟩) m ds.length) (ds.take m) ∧ val (ds.take m) = val ds ∧ (ds.take m).length = m := by
  have hl : (ds.take m).length = m := by rw [List.length_take, Nat.min_eq_left ht.1]
  refine ⟨⟨?_, hd.take m, ?_⟩, ?_, hl⟩
  · rw [hl]
    refine ⟨by simp [U, Nat.min_eq_left ht.1], .inr ⟨g, ds.length, _, rfl, hb, h, ht.1, hm, by simp [U], ?_⟩⟩
    simp [U, List.map_take]
  · unfold Top
    rw [hl]
    rcases ht.2.2 with h0 | h0
    · exact .inl (by rw [h0]; rfl)
    · right
      rcases Nat.eq_zero_or_pos m with h1 | h1
      · subst h1
        rw [List.getD_eq_getElem?_getD, List.getElem?_take_eq_none (by omega)]
        simp at h0 ⊢
        have := ht.2.1 0 (by omega)
        rcases Nat.eq_zero_or_pos ds.length with h2 | h2
        · have : ds = [] := List.eq_nil_of_length_eq_zero h2
          subst this
          simp at h0
        · exact absurd (by simpa using this h2) h0
      · rw [List.getD_eq_getElem?_getD, List.getElem?_take_of_lt (by omega), ← List.getD_eq_getElem?_getD]
        exact h0
  · have h1 := val_take_drop ds m ht.1
    have h2 : val (ds.drop m) = 0 := val_all_zero (fun d hd => by
      obtain ⟨i, hi, rfl⟩ := List.getElem_of_mem hd
      rw [List.getElem_drop]
      have h3 := ht.2.1 (m + i) (by omega) (by rw [List.length_drop] at hi; omega)
      rw [List.getD_eq_getElem?_getD, List.getElem?_eq_getElem (by rw [List.length_drop] at hi; omega)] at h3
      simpa using h3)
    rw [h2] at h1
    simpa using h1.symm

/-! ### times -/
/-- One digit's product is added: what holds of the digits while place k of q is up. -/
structure Inner (i k m : Nat) (a c : Int) (q o0 o : List Int) : Prop where
  len : o.length = o0.length
  dig : Dig o
  far : ∀ j, i + k ≤ j → o.getD j 0 = o0.getD j 0
  val : val o + B9 ^ (i + k) * c = val o0 + B9 ^ i * (a * val (q.take k))
  c0 : 0 ≤ c
  c1 : c < 1000000000
theorem Inner.start (i m : Nat) (a : Int) (q o : List Int) (hd : Dig o) : Inner i 0 m a 0 q o o :=
  ⟨rfl, hd, fun _ _ => rfl, by simp [Go.Proofs.YtmfkpmepgbjmkaaGreatDoor.val], by decide, by decide⟩
theorem getD_set_ne (l : List Int) {i j : Nat} (h : i ≠ j) (x : Int) : (l.set i x).getD j 0 = l.getD j 0 := by
  rw [List.getD_eq_getElem?_getD, List.getD_eq_getElem?_getD, List.getElem?_set_ne h]
theorem getD_set_eq (l : List Int) {i : Nat} (h : i < l.length) (x : Int) : (l.set i x).getD i 0 = x := by
  rw [List.getD_eq_getElem?_getD, List.getElem?_set_self h]
  rfl
theorem mul_range {a b : Int} (a0 : 0 ≤ a) (a1 : a < 1000000000) (b0 : 0 ≤ b) (b1 : b < 1000000000) : 0 ≤ a * b ∧ a * b ≤ 999999998000000001 := by
  refine ⟨Int.mul_nonneg a0 b0, ?_⟩
  have h1 : a * b ≤ 999999999 * b := Int.mul_le_mul_of_nonneg_right (by omega) b0
  omega
theorem Inner.step {i k m : Nat} {a c : Int} {q o0 o : List Int} (h : Inner i k m a c q o0 o) (hk : k < q.length) (hik : i + k < o.length) (a0 : 0 ≤ a) (a1 : a < 1000000000) (hq : Dig q) :
    Inner i (k + 1) m a ((c + (o.getD (i + k) 0 + a * q.getD k 0)) / 1000000000) q o0 (o.set (i + k) ((c + (o.getD (i + k) 0 + a * q.getD k 0)) % 1000000000)) := by
  obtain ⟨q0, q1⟩ := hq.at_ k
  obtain ⟨x0, x1⟩ := h.dig.at_ (i + k)
  obtain ⟨p0, p1⟩ := mul_range a0 a1 q0 q1
  have hc0 := h.c0
  have hc1 := h.c1
  refine ⟨by rw [List.length_set]; exact h.len, h.dig.set _ (by omega) (by omega), fun j hj => ?_, ?_, by omega, by omega⟩
  · rw [getD_set_ne _ (by omega)]
    exact h.far j (by omega)
  · have hv := h.val
    rw [val_set o (i + k) hik, val_take_succ q k hk, ← Nat.add_assoc, Int.pow_succ, Int.mul_add, Int.mul_add, ← Int.mul_assoc (B9 ^ i) a]
    rw [show B9 ^ i * (a * (B9 ^ k * q.getD k 0)) = B9 ^ (i + k) * (a * q.getD k 0) from by rw [Int.pow_add]; grind]
    rw [show B9 ^ i * a * Go.Proofs.YtmfkpmepgbjmkaaGreatDoor.val (q.take k) = B9 ^ i * (a * Go.Proofs.YtmfkpmepgbjmkaaGreatDoor.val (q.take k)) from Int.mul_assoc _ _ _]
    rw [show ∀ z : Int, Go.Proofs.YtmfkpmepgbjmkaaGreatDoor.val o0 + (B9 ^ i * (a * Go.Proofs.YtmfkpmepgbjmkaaGreatDoor.val (q.take k)) + z) = (Go.Proofs.YtmfkpmepgbjmkaaGreatDoor.val o0 + B9 ^ i * (a * Go.Proofs.YtmfkpmepgbjmkaaGreatDoor.val (q.take k))) + z from fun z => by omega, ← hv]
    generalize a * q.getD k 0 = y at *
    generalize o.getD (i + k) 0 = x at *
    generalize B9 ^ (i + k) = p
    have e : (c + (x + y)) % 1000000000 = (c + (x + y)) - 1000000000 * ((c + (x + y)) / 1000000000) := by omega
    rw [e]
    generalize (c + (x + y)) / 1000000000 = z
    show Go.Proofs.YtmfkpmepgbjmkaaGreatDoor.val o + p * (c + (x + y) - 1000000000 * z - x) + p * 1000000000 * z = _
    grind
/-- The first i digits of p are done. -/
structure Outer (i n m : Nat) (p q o : List Int) : Prop where
  len : o.length = n + m
  dig : Dig o
  far : ∀ j, i + m ≤ j → o.getD j 0 = 0
  val : val o = val (p.take i) * val q
theorem Outer.start (n m : Nat) (p q : List Int) : Outer 0 n m p q (List.replicate (n + m) 0) :=
  ⟨by simp, Dig.zeros _, fun j _ => by rw [List.getD_eq_getElem?_getD, List.getElem?_replicate]; split <;> rfl, by rw [val_zeros]; simp [Go.Proofs.YtmfkpmepgbjmkaaGreatDoor.val]⟩
theorem Outer.step {i n m : Nat} {p q o o1 : List Int} {c : Int} (h : Outer i n m p q o) (hi : i < p.length) (hp : p.length = n) (hq : q.length = m) (h1 : Inner i m m (p.getD i 0) c q o o1) :
    Outer (i + 1) n m p q (o1.set (i + m) c) := by
  have hl : o1.length = n + m := h1.len.trans h.len
  refine ⟨by rw [List.length_set]; exact hl, h1.dig.set _ h1.c0 h1.c1, fun j hj => ?_, ?_⟩
  · rw [getD_set_ne _ (by omega), h1.far j (by omega)]
    exact h.far j (by omega)
  · rw [val_set _ _ (by omega), h1.far _ (Nat.le_refl _), h.far _ (Nat.le_refl _), val_take_succ p i hi]
    have hv := h1.val
    rw [h.val, ← hq, List.take_length] at hv
    rw [← hq]
    generalize B9 ^ i = b at *
    generalize B9 ^ (i + q.length) = d at *
    generalize Go.Proofs.YtmfkpmepgbjmkaaGreatDoor.val (p.take i) = x at *
    generalize Go.Proofs.YtmfkpmepgbjmkaaGreatDoor.val q = y at *
    generalize p.getD i 0 = z at *
    grind

def TimesPost (p q : List Int) (w : World) (e : Ending) (w' : World) : Prop :=
  ∃ v ds, e = .returned v ∧ Pc w.heap.size w' v ds ∧ val ds = val p * val q ∧ ds.length ≤ p.length + q.length ∧ Below w.heap.size w w'

theorem Tryz.infoU : (Tryz.prog.info? 166).map (fun i => (i.zero, i.size, i.bytes)) = some (some (.int .u64 0), 1, 8) := by kernel_rfl

set_option maxRecDepth 100000 in
set_option maxHeartbeats 1600000 in
theorem times_any (A A' : Option Addr) (n m c c' : Nat) (ds es : List Int) (w : World) (hr : Rd .u64 w A n ds) (hs : Rd .u64 w A' m es)
    (hn : n ≤ 1000000000000) (hm : m ≤ 1000000000000) (hd : Dig ds) (he : Dig es) :
    Calls Tryz.prog 141 #[.slice A n c, .slice A' m c'] w (TimesPost ds es w) := by
  have H1 := Lib.hid hr
  have H2 := Lib.hid hs
  have HD := Lib.hid (And.intro hd he)
  have L1 := Lib.hid hr.1
  have L2 := Lib.hid hs.1
  clear hr hs hd he
  have hmk : ∀ W, (Instr.makeSlice 171 (.int .i64 ((n : Int) + (m : Int))) (.int .i64 ((n : Int) + (m : Int)))).run Tryz.prog W = .ok (.slice (some ⟨W.heap.size, 0, none⟩) (n + m) (n + m)) (W.alloc (.cells (madeCells #[Value.int .u64 0] (n + m)) 166)) := fun W => by
    have := run_make_row' (P := Tryz.prog) 171 166 (.int .u64 0) 8 Tryz.underlying171 Tryz.infoU rfl .i64 .i64 (n + m) (by omega) (by omega) W
    rw [Int.natCast_add] at this
    exact this
  go_enter Tryz.func141, Tryz.ntmps141
  go_wp2_with fail
  go_loopw [19] (fun s wr => ∃ (i : Nat) (o : List Int), i ≤ n ∧ s = .int .i64 i ∧ UB wr w.heap.size o ∧ Hid (Outer i n m ds es o) ∧ Below w.heap.size w wr) (fun s _ => n - (intOf s).toNat)
  case atStart => exact ⟨0, _, Nat.zero_le _, rfl, UB.made w (n + m), Outer.start n m ds es, nb_alloc _ _⟩
  case round =>
    obtain ⟨i, o, hi, rfl, hub, ho, hb⟩ := hrel
    by_cases hlt : i < n
    · obtain ⟨g, hA, c1⟩ := (H1.out.nb hb).at_ (i := i) hlt
      subst hA
      obtain ⟨a, ha⟩ : ∃ a, a = ds.getD i 0 := ⟨_, rfl⟩
      rw [← ha] at c1
      have HA := Lib.hid ha
      clear ha
      obtain ⟨wo, hwo⟩ : ∃ wo, wo = wr := ⟨_, rfl⟩
      subst hwo
      have HUB := Lib.hid hub
      clear hub
      go_wp2_with fail
      go_loopw [8, 26] (fun sc sk wr => ∃ (k : Nat) (cc : Int) (o1 : List Int), k ≤ m ∧ sc = .int .u64 cc ∧ sk = .int .i64 k ∧ UB wr w.heap.size o1 ∧ Hid (Inner i k m a cc es o o1) ∧ Below w.heap.size w wr) (fun _ sk _ => m - (intOf sk).toNat)
      case atStart => exact ⟨0, 0, o, Nat.zero_le _, rfl, rfl, HUB.out, Inner.start i m a es o ho.out.dig, hb⟩
      case round =>
        obtain ⟨k, cc, o1, hk, rfl, rfl, hub, hin, hb1⟩ := hrel
        by_cases hkm : k < m
        · obtain ⟨g2, hA2, c2⟩ := (H2.out.nb hb1).at_ (i := k) hkm
          subst hA2
          have ho1 : o1.length = n + m := hin.out.len.trans ho.out.len
          have c3 := hub.cell (i := i + k) (by omega)
          have c4 := hub.frozen (i + k)
          obtain ⟨y, hy⟩ : ∃ y, y = es.getD k 0 := ⟨_, rfl⟩
          obtain ⟨x, hx⟩ : ∃ x, x = o1.getD (i + k) 0 := ⟨_, rfl⟩
          rw [← hy] at c2
          rw [← hx] at c3
          obtain ⟨a0, a1⟩ : 0 ≤ a ∧ a < 1000000000 := by rw [HA.out]; exact HD.out.1.at_ _
          obtain ⟨y0, y1⟩ : 0 ≤ y ∧ y < 1000000000 := by rw [hy]; exact HD.out.2.at_ _
          obtain ⟨x0, x1⟩ : 0 ≤ x ∧ x < 1000000000 := by rw [hx]; exact hin.out.dig.at_ _
          have k0 := hin.out.c0
          have k1 := hin.out.c1
          obtain ⟨p0, p1⟩ := mul_range a0 a1 y0 y1
          have HY := Lib.hid hy
          have HX := Lib.hid hx
          have HO1 := Lib.hid ho1
          clear hy hx ho1
          have hst : Hid (Inner i (k + 1) m a ((cc + (x + a * y)) / 1000000000) es o (o1.set (i + k) ((cc + (x + a * y)) % 1000000000))) := by
            have := hin.out.step (by rw [L2.out]; exact hkm) (by rw [HO1.out]; omega) a0 a1 HD.out.2
            rw [← HY.out, ← HX.out] at this
            exact this
          go_wp2_with fail
          go_roundw
          case rel => exact ⟨k + 1, _, _, by omega, rfl, by go_num, hub.set _ _, hst, hb1.setCell (p := ⟨w.heap.size, i + k, none⟩) (Nat.le_refl _) _⟩
          case measure => simp [intOf]; omega
        · obtain rfl : k = m := by omega
          have ho1 : o1.length = n + k := hin.out.len.trans ho.out.len
          have c3 := hub.cell (i := i + k) (by omega)
          have c4 := hub.frozen (i + k)
          have HO1 := Lib.hid ho1
          clear ho1
          have hst : Hid (Outer (i + 1) n k ds es (o1.set (i + k) cc)) :=
            ho.out.step (by rw [L1.out]; exact hlt) L1.out L2.out (by rw [← HA.out]; exact hin.out)
          go_wp2_with fail
          go_roundw
          case rel => exact ⟨i + 1, _, by omega, by go_num, hub.set _ _, hst, hb1.setCell (p := ⟨w.heap.size, i + k, none⟩) (Nat.le_refl _) _⟩
          case measure => simp [intOf]; omega
    · obtain rfl : i = n := by omega
      have hol : Hid (o.length = i + m) := ho.out.len
      have hrd : Hid (Rd .u64 wr (some ⟨w.heap.size, 0, none⟩) (i + m) o) := ⟨hol.out, fun j hj => ⟨_, rfl, hub.cell (by rw [hol.out]; exact hj)⟩⟩
      go_wp2_with fail
      refine (trim_any _ _ _ o _ hrd.out (Nat.le_refl _) (by omega)).mono ?_
      rintro e w1 ⟨t, ht, rfl, rfl⟩
      go_wp2_with fail
      go_ret
      obtain ⟨h1, h2, h3⟩ := hub.trimmed (base := w.heap.size) (Nat.le_refl _) ht ho.out.dig (by rw [hol.out]; simp only [maxLen]; omega)
      rw [hol.out] at h1
      refine ⟨_, o.take t, rfl, h1, ?_, ?_, hb⟩
      · rw [h2, ho.out.val, ← L1.out, List.take_length]
      · rw [h3, L1.out, L2.out]
        have := ht.1
        rw [hol.out] at this
        exact this
end Go.Proofs.YtmfkpmepgbjmkaaGreatDoor

namespace Go.Proofs.YtmfkpmepgbjmkaaGreatDoor
open Go.RowKit

/-- The digits from place i on are divided. -/
structure Short (n i : Nat) (d r : Int) (ds o : List Int) : Prop where
  len : o.length = n
  dig : Dig o
  val : val (ds.drop i) = d * val (o.drop i) + r
  r0 : 0 ≤ r
  r1 : r < d
theorem val_drop_cons (l : List Int) (i : Nat) (h : i < l.length) : val (l.drop i) = l.getD i 0 + 1000000000 * val (l.drop (i + 1)) := by
  rw [List.drop_eq_getElem_cons h, List.getD_eq_getElem?_getD, List.getElem?_eq_getElem h]
  rfl
theorem drop_set (l : List Int) (i : Nat) (x : Int) : (l.set i x).drop (i + 1) = l.drop (i + 1) := by
  rw [List.drop_set]
  simp
theorem Short.start (n : Nat) (d : Int) (ds : List Int) (hl : ds.length = n) (h : 0 < d) : Short n n d 0 ds (List.replicate n 0) :=
  ⟨by simp, Dig.zeros _, by rw [List.drop_eq_nil_of_le (by omega), List.drop_eq_nil_of_le (by simp)]; simp [Go.Proofs.YtmfkpmepgbjmkaaGreatDoor.val], by decide, h⟩
theorem Short.step {n i : Nat} {d r : Int} {ds o : List Int} (h : Short n (i + 1) d r ds o) (hi : i < n) (hl : ds.length = n) (hd : Dig ds) (d1 : d ≤ 1000000000) :
    Short n i d ((r * 1000000000 + ds.getD i 0) % d) ds (o.set i ((r * 1000000000 + ds.getD i 0) / d)) := by
  obtain ⟨x0, x1⟩ := hd.at_ i
  have r0 := h.r0
  have r1 := h.r1
  have hv := h.val
  have hol := h.len
  generalize hx : ds.getD i 0 = x at *
  have dpos : 0 < d := by omega
  have q0 : 0 ≤ (r * 1000000000 + x) / d := Int.ediv_nonneg (by omega) (by omega)
  have q1 : (r * 1000000000 + x) / d < 1000000000 := by
    apply Int.ediv_lt_of_lt_mul dpos
    have : r * 1000000000 + 1000000000 ≤ d * 1000000000 := by omega
    rw [Int.mul_comm]
    omega
  refine ⟨by rw [List.length_set]; exact h.len, h.dig.set _ q0 q1, ?_, Int.emod_nonneg _ (by omega), Int.emod_lt_of_pos _ dpos⟩
  rw [val_drop_cons ds i (by omega), val_drop_cons (o.set i _) i (by rw [List.length_set]; omega), getD_set_eq _ (by omega), drop_set, hv, hx]
  have e := Int.mul_ediv_add_emod (r * 1000000000 + x) d
  generalize (r * 1000000000 + x) / d = q at *
  generalize (r * 1000000000 + x) % d = s at *
  generalize Go.Proofs.YtmfkpmepgbjmkaaGreatDoor.val (o.drop (i + 1)) = y at *
  grind

def SmallPost (p : List Int) (d : Int) (w : World) (e : Ending) (w' : World) : Prop :=
  ∃ v ds r, e = .returned (.tuple #[v, .int .u64 r]) ∧ Pc w.heap.size w' v ds ∧ val p = d * val ds + r ∧ 0 ≤ r ∧ r < d ∧ ds.length ≤ p.length ∧ Below w.heap.size w w'

set_option maxRecDepth 100000 in
set_option maxHeartbeats 1600000 in
theorem smallDiv_any (A : Option Addr) (n c : Nat) (d : Int) (ds : List Int) (w : World) (hr : Rd .u64 w A n ds)
    (hn : n ≤ 1000000000000) (hd : Dig ds) (d0 : 0 < d) (d1 : d ≤ 1000000000) :
    Calls Tryz.prog 134 #[.slice A n c, .int .u64 d] w (SmallPost ds d w) := by
  have H1 := Lib.hid hr
  have HD := Lib.hid hd
  have L1 := Lib.hid hr.1
  clear hr hd
  have hmk := fun W => run_make_row' (P := Tryz.prog) 171 166 (.int .u64 0) 8 Tryz.underlying171 Tryz.infoU rfl .i64 .i64 n (by omega) (by omega) W
  go_enter Tryz.func134, Tryz.ntmps134
  go_wp2_with fail
  go_loopw [7, 8] (fun sr si wr => ∃ (i r : Int) (o : List Int), -1 ≤ i ∧ i < (n : Int) ∧ sr = .int .u64 r ∧ si = .int .i64 i ∧ UB wr w.heap.size o ∧ Hid (Short n (i + 1).toNat d r ds o) ∧ Below w.heap.size w wr) (fun _ si _ => (intOf si + 1).toNat)
  case atStart =>
    refine ⟨(n : Int) - 1, 0, _, by omega, by omega, rfl, rfl, UB.made w n, ?_, nb_alloc _ _⟩
    have := Short.start n d ds L1.out d0
    rw [show ((n : Int) - 1 + 1).toNat = n by omega]
    exact this
  case round =>
    obtain ⟨i, r, o, hi0, hi1, rfl, rfl, hub, ho, hb⟩ := hrel
    by_cases h0 : 0 ≤ i
    · obtain ⟨g, hA, c1⟩ := (H1.out.nb hb).at_ (i := i.toNat) (by omega)
      subst hA
      obtain ⟨x, hx⟩ : ∃ x, x = ds.getD i.toNat 0 := ⟨_, rfl⟩
      rw [← hx] at c1
      obtain ⟨x0, x1⟩ : 0 ≤ x ∧ x < 1000000000 := by rw [hx]; exact HD.out.at_ _
      have r0 := ho.out.r0
      have r1 := ho.out.r1
      have hol := ho.out.len
      have c2 := hub.cell (i := i.toNat) (by omega)
      have c3 := hub.frozen i.toNat
      have HX := Lib.hid hx
      have HL := Lib.hid hol
      clear hx hol
      have e1 : (i + 1).toNat = i.toNat + 1 := by omega
      have hst : Hid (Short n i.toNat d ((r * 1000000000 + x) % d) ds (o.set i.toNat ((r * 1000000000 + x) / d))) := by
        have h2 := ho.out
        rw [e1] at h2
        have := h2.step (by omega) L1.out HD.out d1
        rw [← HX.out] at this
        exact this
      clear e1
      go_wp2_with fail
      go_roundw
      case rel =>
        refine ⟨i - 1, _, _, by omega, by omega, rfl, rfl, hub.set _ _, ?_, hb.setCell (p := ⟨w.heap.size, i.toNat, none⟩) (Nat.le_refl _) _⟩
        rw [show i - 1 + 1 = i by omega]
        exact hst
      case measure => simp [intOf]; omega
    · obtain rfl : i = -1 := by omega
      have hol : Hid (o.length = n) := ho.out.len
      have hrd : Hid (Rd .u64 wr (some ⟨w.heap.size, 0, none⟩) n o) := ⟨hol.out, fun j hj => ⟨_, rfl, hub.cell (by rw [hol.out]; exact hj)⟩⟩
      go_wp2_with fail
      refine (trim_any _ _ _ o _ hrd.out (Nat.le_refl _) (by omega)).mono ?_
      rintro e w1 ⟨t, ht, rfl, rfl⟩
      go_wp2_with fail
      go_ret2
      obtain ⟨h1, h2, h3⟩ := hub.trimmed (base := w.heap.size) (Nat.le_refl _) ht ho.out.dig (by rw [hol.out]; simp only [maxLen]; omega)
      rw [hol.out] at h1
      refine ⟨_, o.take t, r, rfl, h1, ?_, ho.out.r0, ho.out.r1, ?_, hb⟩
      · rw [h2]
        exact ho.out.val
      · rw [h3, L1.out]
        have := ht.1
        rw [hol.out] at this
        exact this
end Go.Proofs.YtmfkpmepgbjmkaaGreatDoor

namespace Go.Proofs.YtmfkpmepgbjmkaaGreatDoor
open Go.RowKit

def U8 (ds : List Int) : List Value := ds.map fun d => Value.int .u8 d
/-- The number that bytes spell, the least significant digit first. -/
def lv : List Int → Int
  | [] => 0
  | c :: r => (c - 48) + 10 * lv r
def Asc (l : List Int) : Prop := ∀ c ∈ l, 48 ≤ c ∧ c ≤ 57
theorem Asc.append {a b : List Int} (ha : Asc a) (hb : Asc b) : Asc (a ++ b) := fun d hd => (List.mem_append.1 hd).elim (ha d) (hb d)
theorem lv_snoc (l : List Int) (c : Int) : lv (l ++ [c]) = lv l + 10 ^ l.length * (c - 48) := by
  induction l with
  | nil => show (c - 48) + 10 * 0 = 0 + 10 ^ 0 * (c - 48); rw [Int.pow_zero]; omega
  | cons d l ih =>
    show (d - 48) + 10 * lv (l ++ [c]) = ((d - 48) + 10 * lv l) + 10 ^ (l.length + 1) * (c - 48)
    rw [ih, Int.pow_succ]
    generalize (10 : Int) ^ l.length = p
    grind
/-- While digit k of a piece x is up: what is left of it is y. -/
structure Dg (m k : Nat) (x y : Int) (o0 o : List Int) : Prop where
  len : o.length = m + k
  asc : Asc o
  val : lv o + 10 ^ (m + k) * y = lv o0 + 10 ^ m * x
  y0 : 0 ≤ y
  y1 : y < 10 ^ (9 - k)
theorem Dg.start {m : Nat} {x : Int} {o : List Int} (hl : o.length = m) (ha : Asc o) (x0 : 0 ≤ x) (x1 : x < 1000000000) : Dg m 0 x x o o :=
  ⟨hl, ha, rfl, x0, by simpa using x1⟩
theorem Dg.step {m k : Nat} {x y : Int} {o0 o : List Int} (h : Dg m k x y o0 o) (hk : k < 9) : Dg m (k + 1) x (y / 10) o0 (o ++ [48 + y % 10]) := by
  have hl := h.len
  have hv := h.val
  have y0 := h.y0
  have y1 := h.y1
  refine ⟨by simp [hl]; omega, h.asc.append (fun c hc => by rw [List.mem_singleton.1 hc]; omega), ?_, by omega, ?_⟩
  · rw [lv_snoc, hl, ← Nat.add_assoc, Int.pow_succ, ← hv]
    generalize (10 : Int) ^ (m + k) = p
    have e : y % 10 = y - 10 * (y / 10) := by omega
    rw [e]
    generalize y / 10 = z
    grind
  · have e : 9 - k = (9 - (k + 1)) + 1 := by omega
    rw [e, Int.pow_succ] at y1
    omega
theorem Dg.nine {m : Nat} {x y : Int} {o0 o : List Int} (h : Dg m 9 x y o0 o) : y = 0 := by
  have := h.y0
  have h1 := h.y1
  simp at h1
  omega

/-- The numeral is told by its digits. -/
theorem dec_of_spell (l : List UInt8) : ∀ (u : Nat), (∀ c ∈ l, 48 ≤ c.toNat ∧ c.toNat ≤ 57) → (∃ c r, l = c :: r ∧ 49 ≤ c.toNat) → spell 0 l = u → l = Lib.decDigits u := by
  induction hn : l.length using Nat.strongRecOn generalizing l with
  | _ n ih =>
    intro u hd hh hs
    rcases List.eq_nil_or_concat l with rfl | ⟨r, c, rfl⟩
    · obtain ⟨_, _, h, _⟩ := hh
      cases h
    · rw [List.concat_eq_append] at *
      have hc := hd c (by simp)
      rw [spell_append] at hs
      have hs' : spell 0 r * 10 + (c.toNat - 48) = u := hs
      have hcc : UInt8.ofNat (48 + (c.toNat - 48)) = c := by
        rw [show 48 + (c.toNat - 48) = c.toNat by omega]
        simp
      rcases List.eq_nil_or_concat r with rfl | ⟨r', c', rfl⟩
      · have e : u = c.toNat - 48 := by rw [← hs']; show 0 * 10 + _ = _; omega
        rw [Lib.decDigits, dif_pos (by omega), e, hcc]
        rfl
      · rw [List.concat_eq_append] at *
        have hr := ih (r' ++ [c']).length (by rw [← hn]; simp) (r' ++ [c']) rfl (spell 0 (r' ++ [c'])) (fun x hx => hd x (List.mem_append_left _ hx)) (by
          obtain ⟨a, b, e, h1⟩ := hh
          cases h : (r' ++ [c']) with
          | nil => simp at h
          | cons a' b' =>
            rw [h] at e
            injection e with e _
            exact ⟨a', b', rfl, by rw [e]; exact h1⟩) rfl
        have hpos : 1 ≤ spell 0 (r' ++ [c']) := by
          rcases Nat.eq_zero_or_pos (spell 0 (r' ++ [c'])) with h0 | h0
          · rw [h0] at hr
            obtain ⟨a, b, e, h1⟩ := hh
            rw [hr] at e
            have : Lib.decDigits 0 = [48] := by decide +kernel
            rw [this] at e
            injection e with e _
            rw [← e] at h1
            exact absurd h1 (by decide)
          · exact h0
        rw [Lib.decDigits, dif_neg (by omega), show u / 10 = spell 0 (r' ++ [c']) by omega, show u % 10 = c.toNat - 48 by omega, hcc, ← hr]

/-! ### Reverse -/
/-- A block of type T whose first cells are these. -/
def VRow (T : TypeId) (w : World) (g : Nat) (vs : List Value) : Prop := ∃ cur : Array Value, w.heap[g]? = some (.cells cur T (0, 0)) ∧ cur.toList.take vs.length = vs
section
variable {T : TypeId} {w w1 : World} {g : Nat} {vs : List Value}
theorem VRow.lt (h : VRow T w g vs) : g < w.heap.size := by
  obtain ⟨cur, hc, _⟩ := h
  exact (Array.getElem?_eq_some_iff.1 hc).1
theorem VRow.of_block (h : VRow T w g vs) (hb : w1.heap[g]? = w.heap[g]?) : VRow T w1 g vs := by
  obtain ⟨cur, hc, ht⟩ := h
  exact ⟨cur, hb.trans hc, ht⟩
theorem VRow.nb (h : VRow T w g vs) (hb : Below w.heap.size w w1) : VRow T w1 g vs := h.of_block (hb.block g h.lt)
theorem VRow.kp {S : Nat → Prop} (h : VRow T w g vs) (hk : Kp S w w1) (hs : ¬ S g) : VRow T w1 g vs := h.of_block (hk.block g h.lt hs)
theorem VRow.cell (h : VRow T w g vs) {i : Nat} (hi : i < vs.length) : w.cell? ⟨g, i, none⟩ = vs[i]? := by
  obtain ⟨cur, hc, ht⟩ := h
  have h1 : (cur.toList.take vs.length)[i]? = vs[i]? := by rw [ht]
  rw [List.getElem?_take_of_lt hi] at h1
  simp only [World.cell?, hc]
  simp only [Option.isSome_none, Bool.false_eq_true, if_false]
  rw [← Array.getElem?_toList, h1]
theorem VRow.frozen (h : VRow T w g vs) (i : Nat) : w.frozen? ⟨g, i, none⟩ = false := by
  obtain ⟨cur, hc, _⟩ := h
  simp [World.frozen?, hc]
theorem VRow.set (h : VRow T w g vs) (i : Nat) (v : Value) : VRow T (w.setCell ⟨g, i, none⟩ v) g (vs.set i v) := by
  obtain ⟨cur, hc, ht⟩ := h
  refine ⟨cur.setIfInBounds i v, ?_, ?_⟩
  · simp [World.setCell, Array.getElem?_modify, hc]
  · rw [Array.toList_setIfInBounds, List.length_set]
    conv => rhs; rw [← ht]
    rw [List.take_set]
end
/-- Both ends have been exchanged, up to place i. -/
def Rev (i : Nat) (l0 l : List Int) : Prop := l.length = l0.length ∧ ∀ t, t < l0.length → l.getD t 0 = if t < i ∨ l0.length - i ≤ t then l0.getD (l0.length - 1 - t) 0 else l0.getD t 0
theorem Rev.start (l : List Int) : Rev 0 l l := ⟨rfl, fun t ht => by rw [if_neg (by omega)]⟩
theorem Rev.step {i : Nat} {l0 l : List Int} (h : Rev i l0 l) (hi : 2 * i + 1 < l0.length) :
    Rev (i + 1) l0 ((l.set i (l0.getD (l0.length - 1 - i) 0)).set (l0.length - 1 - i) (l0.getD i 0)) := by
  refine ⟨by simp [h.1], fun t ht => ?_⟩
  by_cases h1 : t = l0.length - 1 - i
  · subst h1
    rw [getD_set_eq _ (by rw [List.length_set, h.1]; exact ht), if_pos (by omega)]
    congr 1
    omega
  · rw [getD_set_ne _ (by omega)]
    by_cases h2 : t = i
    · subst h2
      rw [getD_set_eq _ (by rw [h.1]; exact ht), if_pos (by omega)]
    · rw [getD_set_ne _ (by omega), h.2 t ht]
      by_cases h3 : t < i ∨ l0.length - i ≤ t
      · rw [if_pos h3, if_pos (by omega)]
      · rw [if_neg h3, if_neg (by omega)]
theorem Rev.done {i : Nat} {l0 l : List Int} (h : Rev i l0 l) (hi : l0.length ≤ 2 * i + 1) : l = l0.reverse := by
  apply List.ext_getElem (by simp [h.1])
  intro t h1 h2
  have ht : t < l0.length := by rw [← h.1]; exact h1
  have h3 := h.2 t ht
  rw [List.getElem_reverse]
  rw [List.getD_eq_getElem?_getD, List.getElem?_eq_getElem h1] at h3
  simp only [Option.getD_some] at h3
  rw [h3]
  by_cases h4 : t < i ∨ l0.length - i ≤ t
  · rw [if_pos h4, List.getD_eq_getElem?_getD, List.getElem?_eq_getElem (by omega)]
    rfl
  · rw [if_neg h4]
    rw [List.getD_eq_getElem?_getD, List.getElem?_eq_getElem ht]
    simp only [Option.getD_some]
    congr 1
    omega

set_option maxRecDepth 100000 in
set_option maxHeartbeats 1600000 in
theorem reverse_any (w : World) (g n c : Nat) (l : List Int) (hl : l.length = n) (hr : VRow 5 w g (U8 l)) (hn : n ≤ 100000000000000) :
    Calls Tryz.prog 156 #[.slice (some ⟨g, 0, none⟩) n c] w fun e w' => e = .returned (.tuple #[]) ∧ VRow 5 w' g (U8 l.reverse) ∧ Kp (· = g) w w' := by
  have HL := Lib.hid hl
  clear hl
  go_enter Tryz.func156, Tryz.ntmps156
  go_wp2_with fail
  go_loopw [2, 3] (fun si sj wr => ∃ (i : Nat) (l1 : List Int), 2 * i ≤ n + 1 ∧ si = .int .i64 i ∧ sj = .int .i64 ((n : Int) - 1 - (i : Int)) ∧ VRow 5 wr g (U8 l1) ∧ Hid (Rev i l l1) ∧ Kp (· = g) w wr) (fun si _ _ => n - (intOf si).toNat)
  case atStart => exact ⟨0, l, by omega, rfl, by simp, hr, Rev.start l, Kp.refl _ _⟩
  case round =>
    obtain ⟨i, l1, hi, rfl, rfl, hv, hrev, hk⟩ := hrel
    by_cases hlt : 2 * i + 1 < n
    · have e1 : (n : Int) - 1 - (i : Int) = ((n - 1 - i : Nat) : Int) := by omega
      obtain ⟨j, hj⟩ : ∃ j, j = n - 1 - i := ⟨_, rfl⟩
      rw [e1, ← hj]
      have hij : i < j := by omega
      have hjn : j < n := by omega
      have c1 := hv.cell (i := i) (by have := hrev.out.1; have := HL.out; simp [U8]; omega)
      have c2 := hv.cell (i := j) (by have := hrev.out.1; have := HL.out; simp [U8]; omega)
      have f1 := hv.frozen i
      have f2 := hv.frozen j
      have g1 : (U8 l1)[i]? = some (.int .u8 (l.getD i 0)) := by
        have h1 := hrev.out.2 i (by rw [HL.out]; omega)
        rw [if_neg (by rw [HL.out]; omega)] at h1
        rw [← h1]
        simp [U8, List.getD_eq_getElem?_getD, List.getElem?_eq_getElem (show i < l1.length by have := hrev.out.1; have := HL.out; omega)]
      have g2 : (U8 l1)[j]? = some (.int .u8 (l.getD j 0)) := by
        have h1 := hrev.out.2 j (by rw [HL.out]; omega)
        rw [if_neg (by rw [HL.out]; omega)] at h1
        rw [← h1]
        simp [U8, List.getD_eq_getElem?_getD, List.getElem?_eq_getElem (show j < l1.length by have := hrev.out.1; have := HL.out; omega)]
      rw [g1] at c1
      rw [g2] at c2
      obtain ⟨x, hx⟩ : ∃ x, x = l.getD i 0 := ⟨_, rfl⟩
      obtain ⟨y, hy⟩ : ∃ y, y = l.getD j 0 := ⟨_, rfl⟩
      rw [← hx] at c1
      rw [← hy] at c2
      have hst : Hid (Rev (i + 1) l ((l1.set i y).set j x)) := by
        have := hrev.out.step (by rw [HL.out]; exact hlt)
        rw [HL.out, ← hj, ← hx, ← hy] at this
        exact this
      have HJ := Lib.hid hj
      have HX := Lib.hid hx
      have HY := Lib.hid hy
      clear hj hx hy g1 g2 e1
      go_wp2_with fail
      go_region
      go_wp2
      go_roundw
      case rel =>
        have h1 : VRow 5 ((wr.setCell ⟨g, i, none⟩ (.int .u8 y)).setCell ⟨g, j, none⟩ (.int .u8 x)) g (U8 ((l1.set i y).set j x)) := by
          have := (hv.set i (.int .u8 y)).set j (.int .u8 x)
          rw [show (U8 l1).set i (.int .u8 y) = U8 (l1.set i y) from by simp [U8, List.map_set], show (U8 (l1.set i y)).set j (.int .u8 x) = U8 ((l1.set i y).set j x) from by simp [U8, List.map_set]] at this
          exact this
        exact ⟨i + 1, _, by omega, by go_num, by have := HJ.out; congr 1; omega, h1.of_block rfl, hst, ((hk.set (p := ⟨g, i, none⟩) rfl _).set (p := ⟨g, j, none⟩) rfl _).nb (nb_drew _)⟩
      case measure => simp [intOf]; omega
    · have hlt' : ¬ (i : Int) < (n : Int) - 1 - (i : Int) := by omega
      have HE : Hid (l1 = l.reverse) := hrev.out.done (by rw [HL.out]; omega)
      go_wp2_with fail
      go_end0
      exact ⟨rfl, by rw [← HE.out]; exact hv, hk⟩
end Go.Proofs.YtmfkpmepgbjmkaaGreatDoor

namespace Go.Proofs.YtmfkpmepgbjmkaaGreatDoor
open Go.RowKit

def LastUp (o : List Int) : Prop := ∃ r c, o = r ++ [c] ∧ 49 ≤ c
/-- The digits of the first i pieces are written. -/
structure Tx (n i : Nat) (ds o : List Int) : Prop where
  le : o.length ≤ 9 * i
  len : i < n → o.length = 9 * i
  asc : Asc o
  val : lv o = val (ds.take i)
  last : i = n → 0 < n → LastUp o
theorem Tx.start (n : Nat) (ds : List Int) (hn : 0 < n) : Tx n 0 ds [] :=
  ⟨by simp, fun _ => rfl, fun _ h => (by cases h), rfl, fun h => by omega⟩
theorem pow_nine (i : Nat) : (10 : Int) ^ (9 * i) = B9 ^ i := by
  rw [Int.pow_mul]
  rfl
theorem Tx.step {n i k : Nat} {ds o0 o : List Int} {y : Int} (h : Tx n i ds o0) (hi : i < n) (hl : ds.length = n) (hd : Dg (9 * i) k (ds.getD i 0) y o0 o) (hk : k ≤ 9)
    (hlast : i + 1 = n → y = 0 → LastUp o) (hy : y = 0) (h9 : i + 1 < n → k = 9) : Tx n (i + 1) ds o := by
  have hv := hd.val
  refine ⟨by rw [hd.len]; omega, fun h1 => by rw [hd.len, h9 h1]; omega, hd.asc, ?_, fun h1 _ => hlast h1 hy⟩
  rw [hy, Int.mul_zero, Int.add_zero, h.val, pow_nine] at hv
  rw [val_take_succ ds i (by omega)]
  exact hv
theorem last_step {y : Int} (o : List Int) (y0 : 0 < y) (h : y / 10 = 0) : LastUp (o ++ [48 + y % 10]) := ⟨o, _, rfl, by omega⟩
theorem lv_nonneg {o : List Int} (h : Asc o) : 0 ≤ lv o := by
  induction o with
  | nil => exact Int.le_refl 0
  | cons c r ih =>
    have h1 := ih (fun x hx => h x (List.mem_cons_of_mem _ hx))
    have h2 := h c (List.mem_cons_self ..)
    show 0 ≤ (c - 48) + 10 * lv r
    omega
def byt (o : List Int) : List UInt8 := o.map fun c => UInt8.ofNat c.toNat
theorem byt_toNat {c : Int} (h : 48 ≤ c ∧ c ≤ 57) : (UInt8.ofNat c.toNat).toNat = c.toNat := by
  rw [UInt8.toNat_ofNat']
  omega
theorem spell_rev {o : List Int} (h : Asc o) : spell 0 (byt o.reverse) = (lv o).toNat := by
  induction o with
  | nil => rfl
  | cons c r ih =>
    have h1 := ih (fun x hx => h x (List.mem_cons_of_mem _ hx))
    have h2 := h c (List.mem_cons_self ..)
    have h3 := lv_nonneg (o := r) (fun x hx => h x (List.mem_cons_of_mem _ hx))
    rw [List.reverse_cons, show byt (r.reverse ++ [c]) = byt r.reverse ++ [UInt8.ofNat c.toNat] from by simp [byt], spell_append, h1]
    show (lv r).toNat * 10 + ((UInt8.ofNat c.toNat).toNat - 48) = ((c - 48) + 10 * lv r).toNat
    rw [byt_toNat h2]
    omega
theorem text_of {o : List Int} (h : Asc o) (hl : LastUp o) : byt o.reverse = Lib.decDigits (lv o).toNat := by
  apply dec_of_spell
  · intro c hc
    obtain ⟨x, hx, rfl⟩ := List.mem_map.1 hc
    have h1 := h x (List.mem_reverse.1 hx)
    rw [byt_toNat h1]
    omega
  · obtain ⟨r, c, rfl, h1⟩ := hl
    refine ⟨UInt8.ofNat c.toNat, byt r.reverse, by simp [byt], ?_⟩
    rw [byt_toNat (h c (by simp))]
    omega
  · exact spell_rev h

theorem Tryz.info8 : (Tryz.prog.info? 5).map (fun i => (i.zero, i.size, i.bytes)) = some (some (.int .u8 0), 1, 1) := by kernel_rfl

theorem own_vrow {base n : Nat} {w : World} {v : Value} {o : List Int} (h : w.ownsRow base 5 1 v n (U8 o)) (hn : 0 < n) : ∃ g c, v = .slice (some ⟨g, 0, none⟩) n c ∧ n ≤ c ∧ c ≤ maxLen ∧ base ≤ g ∧ VRow 5 w g (U8 o) := by
  rcases h.2 with ⟨rfl, rfl⟩ | ⟨g, cap, cur, rfl, hb, hh, h1, h2, h3, h4⟩
  · omega
  · refine ⟨g, cap, rfl, h1, h2, hb, cur, hh, ?_⟩
    have := h.1
    rw [this]
    exact h4

theorem nb_grown {w w1 w2 : World} {base : Nat} {T : TypeId} {v : Value} {n : Nat} {xs : List Value} (hb : Below w.heap.size w w1) (ho : w1.ownsRow base T 1 v n xs) (hbase : w.heap.size ≤ base) (hg : w1.grownBy w2 v.ownBlock) : Below w.heap.size w w2 :=
  hb.trans ⟨hg.os, hg.tape, hg.output, hg.size, fun i hi => hg.block i (by have := hb.size; omega) (fun e => by have := (ho.lt i e.symm).1; omega)⟩

theorem run_back (w : World) (g n c : Nat) (o : List Int) (hv : VRow 5 w g (U8 o)) (hn : o.length = n) (ha : Asc o) :
    (convert 147 38 (.slice (some ⟨g, 0, none⟩) n c)).run Tryz.prog w = .ok (.string ⟨(byt o).toArray⟩) w := by
  have h := run_convert_bytes_back (P := Tryz.prog) w 147 38 5 ⟨g, 0, none⟩ c (byt o) Tryz.underlying147 Tryz.underlying5 Tryz.underlying38 (fun j hj => by
    have hj' : j < o.length := by simpa [byt] using hj
    rw [Lib.add_plain]
    simp only [Nat.zero_add]
    rw [hv.cell (by simpa [U8] using hj')]
    have h1 := ha _ (List.getElem_mem hj')
    have h2 := byt_toNat h1
    simp only [byt, U8, List.getElem?_map, List.getElem?_eq_getElem hj', Option.map_some, List.getElem_map]
    rw [h2]
    congr 2
    omega)
  rw [show (byt o).length = n from by simp [byt, hn]] at h
  exact h

set_option maxRecDepth 100000 in
set_option maxHeartbeats 1600000 in
theorem text_any (A : Option Addr) (n c : Nat) (ds : List Int) (w : World) (hr : Rd .u64 w A n ds) (hn : n ≤ 1000000000000) (hd : Dig ds) (ht : Top ds) :
    Calls Tryz.prog 135 #[.slice A n c] w fun e w' => e = .returned (.string (tn (val ds).toNat)) ∧ Below w.heap.size w w' := by
  have H1 := Lib.hid hr
  have HD := Lib.hid hd
  have HT := Lib.hid ht
  have L1 := Lib.hid hr.1
  clear hr hd ht
  obtain ⟨i0, hi0, hz0, hz1, hz2⟩ := info_parts Tryz.info8
  by_cases h0 : n = 0
  · have h0' : (n : Int) = 0 := by omega
    have e0 : Hid (ds = []) := List.eq_nil_of_length_eq_zero (L1.out.trans h0)
    go_enter Tryz.func135, Tryz.ntmps135
    go_wp2_with fail
    go_ret
    refine ⟨?_, nb_refl _⟩
    rw [e0.out]
    exact congrArg (fun b => Ending.returned (Value.string b)) (by decide +kernel)
  · have h0' : (n : Int) ≠ 0 := by omega
    go_enter Tryz.func135, Tryz.ntmps135
    go_wp2_with (at_make; refine wpList_make_own _ rfl _ _ 147 rfl w.heap.size 5 i0 (.int .u8 0) 1 Tryz.underlying147 hi0 hz0 hz1 .i64 .i64 _ (9 * n) rfl rfl (by go_num) (by rw [hz2]; omega) (by unfold maxLen; omega) (Nat.le_refl _) ?_; intro w1 hown hgrow)
    have hb1 : Below w.heap.size w w1 := ⟨hgrow.os, hgrow.tape, hgrow.output, hgrow.size, fun i hi => hgrow.block i hi (by simp)⟩
    have HO0 := Lib.hid hown
    clear hown hgrow
    go_loopw [3, 16] (fun sv si wr => ∃ (i : Nat) (o : List Int), i ≤ n ∧ si = .int .i64 i ∧ Hid (wr.ownsRow w.heap.size 5 1 sv o.length (U8 o)) ∧ Hid (Tx n i ds o) ∧ Below w.heap.size w wr) (fun _ si _ => n - (intOf si).toNat)
    case atStart => exact ⟨0, [], Nat.zero_le _, rfl, HO0.out, Tx.start n ds (by omega), hb1⟩
    case round =>
      obtain ⟨i, o0, hi, rfl, hown, htx, hb⟩ := hrel
      by_cases hlt : i < n
      · obtain ⟨g, hA, c1⟩ := (H1.out.nb hb).at_ (i := i) hlt
        subst hA
        obtain ⟨x, hx⟩ : ∃ x, x = ds.getD i 0 := ⟨_, rfl⟩
        rw [← hx] at c1
        obtain ⟨x0, x1⟩ : 0 ≤ x ∧ x < 1000000000 := by rw [hx]; exact HD.out.at_ _
        have htop : i + 1 = n → 0 < x := fun h => by
          rcases HT.out with h1 | h1
          · have := L1.out; rw [h1] at this; simp at this; omega
          · rw [L1.out, ← h, Nat.add_sub_cancel, ← hx] at h1
            omega
        have HX := Lib.hid hx
        have HTOP := Lib.hid htop
        clear hx htop
        obtain ⟨wo, hwo⟩ : ∃ wo, wo = wr := ⟨_, rfl⟩
        subst hwo
        go_wp2_with fail
        go_loopw [3, 5, 6] (fun sv sy sk wr => ∃ (k : Nat) (y : Int) (o : List Int), k ≤ 9 ∧ sy = .int .u64 y ∧ sk = .int .i64 k ∧ Hid (wr.ownsRow w.heap.size 5 1 sv o.length (U8 o)) ∧ Hid (Dg (9 * i) k x y o0 o) ∧ 0 ≤ y ∧ y < 1000000000 ∧ Hid (i + 1 = n → y = 0 → LastUp o) ∧ Below w.heap.size w wr) (fun _ _ sk _ => 9 - (intOf sk).toNat)
        case atStart => exact ⟨0, x, o0, by omega, rfl, rfl, hown, Dg.start (htx.out.len hlt) htx.out.asc x0 x1, x0, x1, (fun h1 h2 => absurd (HTOP.out h1) (by omega)), hb⟩
        case round =>
          obtain ⟨k, y, o, hk, rfl, rfl, hownr, hdg, y0, y1, hlast, hbr⟩ := hrel
          by_cases hgo : k < 9 ∧ (i + 1 < n ∨ 0 < y)
          · obtain ⟨hk9, hor⟩ := hgo
            have hlen : Hid (o.length = 9 * i + k) := hdg.out.len
            have hst : Hid (Dg (9 * i) (k + 1) x (y / 10) o0 (o ++ [48 + y % 10])) := hdg.out.step hk9
            have hls : Hid (i + 1 = n → y / 10 = 0 → LastUp (o ++ [48 + y % 10])) := fun h1 h2 => last_step o (by omega) h2
            have hk9' : (k : Int) < 9 := by omega
            by_cases hin : (i : Int) + 1 < (n : Int)
            · go_wp2_with (at_builtin; refine wpList_append_own _ rfl _ _ 147 rfl w.heap.size 5 i0 (.int .u8 0) 1 1 Tryz.underlying147 hi0 hz0 hz1 hz2 rfl (by decide) _ _ _ rfl (hownr.out.alloc _) ⟨wr.heap.size, 0, none⟩ 1 1 [.int .u8 (48 + y % 10)] rfl rfl (cell_one_new _ _ _) (by intro u hu; simp at hu; subst hu; rfl) (by have := hlen.out; unfold maxLen; omega) (by have := hlen.out; omega) (by have := hbr.size; simp; omega) ?_; intro v' w2 hown' hgrow' hnil')
              go_roundw
              case rel =>
                refine ⟨k + 1, _, _, by omega, rfl, by go_num, ?_, hst, by omega, by omega, hls, nb_grown (hbr.trans (nb_alloc _ _ |>.mono hbr.size)) (hownr.out.alloc _) (Nat.le_refl _) hgrow'⟩
                have := hown'
                rw [List.length_append]
                exact Lib.hid (by simpa [U8] using this)
              case measure => simp [intOf]; omega
            · have hy : 0 < y := by omega
              go_wp2_with (at_builtin; refine wpList_append_own _ rfl _ _ 147 rfl w.heap.size 5 i0 (.int .u8 0) 1 1 Tryz.underlying147 hi0 hz0 hz1 hz2 rfl (by decide) _ _ _ rfl (hownr.out.alloc _) ⟨wr.heap.size, 0, none⟩ 1 1 [.int .u8 (48 + y % 10)] rfl rfl (cell_one_new _ _ _) (by intro u hu; simp at hu; subst hu; rfl) (by have := hlen.out; unfold maxLen; omega) (by have := hlen.out; omega) (by have := hbr.size; simp; omega) ?_; intro v' w2 hown' hgrow' hnil')
              go_roundw
              case rel =>
                refine ⟨k + 1, _, _, by omega, rfl, by go_num, ?_, hst, by omega, by omega, hls, nb_grown (hbr.trans (nb_alloc _ _ |>.mono hbr.size)) (hownr.out.alloc _) (Nat.le_refl _) hgrow'⟩
                have := hown'
                rw [List.length_append]
                exact Lib.hid (by simpa [U8] using this)
              case measure => simp [intOf]; omega
          · have hdone : Hid (Tx n (i + 1) ds o) := by
              have hy : y = 0 := by
                rcases Nat.lt_or_ge k 9 with h | h
                · omega
                · obtain rfl : k = 9 := by omega
                  exact hdg.out.nine
              exact htx.out.step hlt L1.out (by rw [← HX.out]; exact hdg.out) hk hlast.out hy (fun h => by omega)
            have fin : ∀ t1 t2 : Value, True := fun _ _ => trivial
            rcases Nat.lt_or_ge k 9 with h9 | h9
            · have hk9' : (k : Int) < 9 := by omega
              have hin : ¬ (i : Int) + 1 < (n : Int) := by omega
              have hy : ¬ 0 < y := by omega
              go_wp2_with fail
              go_roundw
              case rel => exact ⟨i + 1, o, by omega, by go_num, hownr, hdone, hbr⟩
              case measure => simp [intOf]; omega
            · have hk9' : ¬ (k : Int) < 9 := by omega
              go_wp2_with fail
              go_roundw
              case rel => exact ⟨i + 1, o, by omega, by go_num, hownr, hdone, hbr⟩
              case measure => simp [intOf]; omega
      · obtain rfl : i = n := by omega
        have hlu := htx.out.last rfl (by omega)
        obtain ⟨g, cc, hsv, h1, h2, h3, hvr⟩ := own_vrow hown.out (by obtain ⟨r, c, rfl, _⟩ := hlu; simp)
        have HLU := Lib.hid hlu
        have HB3 := Lib.hid h3
        have HVR := Lib.hid hvr
        have hol : Hid (o0.length ≤ 9 * i) := htx.out.le
        subst hsv
        clear hlu hvr h1 h2 h3 hown
        obtain ⟨m, hm⟩ : ∃ m, m = o0.length := ⟨_, rfl⟩
        rw [← hm]
        have HM := Lib.hid hm
        clear hm
        go_wp2_with (go_at_call 156; refine (reverse_any _ g m cc o0 HM.out.symm HVR.out (by have := HM.out; have := hol.out; omega)).mono ?_; rintro e w2 ⟨rfl, hv2, hk2⟩; have HV2 := Lib.hid hv2; clear hv2; have hcv := run_back w2 g m cc o0.reverse HV2.out (by rw [List.length_reverse]; exact HM.out.symm) (fun x hx => htx.out.asc x (List.mem_reverse.1 hx)))
        go_ret
        refine ⟨?_, hk2.below (B := w.heap.size) hb.size (fun j hj => by rw [hj]; exact HB3.out) |> hb.trans⟩
        have h1 := text_of htx.out.asc HLU.out
        rw [htx.out.val, ← L1.out, List.take_length] at h1
        rw [h1]
        rfl
end Go.Proofs.YtmfkpmepgbjmkaaGreatDoor

namespace Go.Proofs.YtmfkpmepgbjmkaaGreatDoor
open Go.RowKit

theorem spell_cons (acc : Nat) (c : UInt8) (r : List UInt8) : spell acc (c :: r) = spell (acc * 10 + (c.toNat - 48)) r := by
  have h := spell_append [c] r acc
  have h1 : spell acc [c] = acc * 10 + (c.toNat - 48) := rfl
  rw [h1, List.singleton_append] at h
  exact h
theorem spell_acc (l : List UInt8) : ∀ acc, spell acc l = acc * 10 ^ l.length + spell 0 l := by
  induction l with
  | nil =>
    intro acc
    rw [List.length_nil, Nat.pow_zero]
    exact (Nat.mul_one acc).symm
  | cons c r ih =>
    intro acc
    rw [spell_cons, spell_cons, ih, ih (0 * 10 + (c.toNat - 48)), List.length_cons, Nat.pow_succ]
    generalize 10 ^ r.length = p
    generalize c.toNat - 48 = d
    generalize spell 0 r = z
    grind
theorem spell_lt (l : List UInt8) (h : ∀ c ∈ l, 48 ≤ c.toNat ∧ c.toNat ≤ 57) : spell 0 l < 10 ^ l.length := by
  induction l with
  | nil => decide
  | cons c r ih =>
    have h1 := ih (fun x hx => h x (List.mem_cons_of_mem _ hx))
    have h2 := h c (List.mem_cons_self ..)
    rw [spell_cons, List.length_cons, spell_acc, Nat.pow_succ]
    have h3 : (0 * 10 + (c.toNat - 48)) * 10 ^ r.length ≤ 9 * 10 ^ r.length := Nat.mul_le_mul_right _ (by omega)
    omega
/-- The pieces behind place e are cut. -/
structure Cut (l : List UInt8) (e : Int) (o : List Int) : Prop where
  dig : Dig o
  val : val o = (spell 0 (l.drop e.toNat) : Nat)
  len : 0 < e → (9 * o.length : Int) = l.length - e
  le : 9 * o.length ≤ l.length + 8
theorem Cut.start (l : List UInt8) : Cut l l.length [] := ⟨fun _ h => (by cases h), by rw [show ((l.length : Nat) : Int).toNat = l.length by omega, List.drop_length]; rfl, fun _ => by simp, by simp⟩
def seg (l : List UInt8) (e : Nat) : List UInt8 := (l.drop (e - 9)).take (e - (e - 9))
theorem seg_len {l : List UInt8} {e : Nat} (h : e ≤ l.length) : (seg l e).length = e - (e - 9) := by
  simp [seg]
  omega
theorem seg_split (l : List UInt8) (e : Nat) (h : e ≤ l.length) : l.drop (e - 9) = seg l e ++ l.drop e := by
  rw [seg]
  conv => lhs; rw [← List.take_append_drop (e - (e - 9)) (l.drop (e - 9))]
  rw [List.drop_drop]
  congr 2
  omega
theorem Cut.step {l : List UInt8} {e : Nat} {o : List Int} (h : Cut l (e : Int) o) (h0 : 0 < e) (he : e ≤ l.length) (hd : ∀ c ∈ l, 48 ≤ c.toNat ∧ c.toNat ≤ 57) :
    Cut l ((e : Int) - 9) (o ++ [((spell 0 (seg l e) : Nat) : Int)]) := by
  have h1 := h.len (by omega)
  have hs : spell 0 (seg l e) < 10 ^ (seg l e).length := spell_lt _ (fun c hc => hd c (List.mem_of_mem_drop (List.mem_of_mem_take hc)))
  have hs2 : spell 0 (seg l e) < 1000000000 := by
    refine Nat.lt_of_lt_of_le hs ?_
    rw [seg_len he]
    exact Nat.pow_le_pow_right (by decide) (show e - (e - 9) ≤ 9 by omega)
  refine ⟨h.dig.append (fun d hd => by rw [List.mem_singleton.1 hd]; omega), ?_, fun h2 => by rw [List.length_append, List.length_singleton]; omega, by rw [List.length_append, List.length_singleton]; omega⟩
  rw [val_snoc, h.val, show ((e : Int) - 9).toNat = e - 9 by omega, seg_split l e he, spell_append, spell_acc _ (spell 0 (seg l e)), ← pow_nine]
  have h3 : (l.drop (e : Int).toNat).length = 9 * o.length := by
    rw [List.length_drop]
    omega
  rw [show ((e : Int)).toNat = e by omega] at h3 ⊢
  rw [h3, Int.natCast_add, Int.natCast_mul, Int.natCast_pow]
  generalize (10 : Int) ^ (9 * o.length) = p
  show (spell 0 (l.drop e) : Int) + p * _ = _ * p + _
  rw [Int.mul_comm p]
  omega

theorem run_bytes_seg (w : World) (l : List UInt8) (a b : Nat) (hab : a ≤ b) (hb : b ≤ l.length) :
    ∃ W c, (convert 38 147 (.string ((⟨l.toArray⟩ : ByteArray).extract a b))).run Tryz.prog w = .ok (.slice (some ⟨w.heap.size, 0, none⟩) (b - a) c) W ∧ Below w.heap.size w W ∧ W.heap.size = w.heap.size + 1 ∧
      ∀ j, j < b - a → W.cell? ⟨w.heap.size, j, none⟩ = some (.int .u8 (((l.drop a).take (b - a)).getD j 0).toNat) := by
  have hx : ((⟨l.toArray⟩ : ByteArray).extract a b).data.toList = (l.drop a).take (b - a) := by
    rw [ByteArray.data_extract, Array.toList_extract, List.extract_eq_take_drop]
  have hs : ((⟨l.toArray⟩ : ByteArray).extract a b).size = b - a := by
    rw [ByteArray.size_extract]
    show min b (l.toArray.size) - a = _
    simp
    omega
  have h := Lib.run_convert_string_bytes (P := Tryz.prog) w 38 147 5 ((⟨l.toArray⟩ : ByteArray).extract a b) Tryz.underlying38 Tryz.underlying147 Tryz.underlying5
  rw [hs] at h
  refine ⟨_, _, h, Lib.bytesWorld_below w _ _, Lib.bytesWorld_size w _ _, fun j hj => ?_⟩
  rw [Lib.bytesWorld_cell w _ _ j (by rw [hs]; exact hj), hx]

theorem spell_take (s : List UInt8) (j : Nat) (hj : j < s.length) : spell 0 (s.take (j + 1)) = spell 0 (s.take j) * 10 + ((s.getD j 0).toNat - 48) := by
  rw [List.take_add_one, spell_append, List.getElem?_eq_getElem hj, List.getD_eq_getElem?_getD, List.getElem?_eq_getElem hj]
  generalize spell 0 (s.take j) = x
  generalize s[j] = c
  rfl
theorem own_nb {base n : Nat} {T : TypeId} {w w1 : World} {v : Value} {xs : List Value} (h : w.ownsRow base T 1 v n xs) (hb : Below w.heap.size w w1) : w1.ownsRow base T 1 v n xs :=
  h.kept (row := none) ⟨hb.os, hb.tape, hb.output, hb.size, fun k hk _ => hb.block k hk⟩ (by
    rcases h.2 with ⟨rfl, rfl⟩ | ⟨g, cap, cur, rfl, _⟩
    · exact .inl rfl
    · exact .inr (by simp [Value.ownBlock]))
theorem trims_parts {ds : List Int} {m : Nat} (ht : Trims ds m) : Top (ds.take m) ∧ val (ds.take m) = val ds ∧ (ds.take m).length = m := by
  have hl : (ds.take m).length = m := by rw [List.length_take, Nat.min_eq_left ht.1]
  refine ⟨?_, ?_, hl⟩
  · unfold Top
    rw [hl]
    rcases ht.2.2 with h0 | h0
    · exact .inl (by rw [h0]; rfl)
    · right
      rcases Nat.eq_zero_or_pos m with h1 | h1
      · subst h1
        rw [List.getD_eq_getElem?_getD, List.getElem?_take_eq_none (by omega)]
        simp at h0 ⊢
        have := ht.2.1 0 (by omega)
        rcases Nat.eq_zero_or_pos ds.length with h2 | h2
        · have : ds = [] := List.eq_nil_of_length_eq_zero h2
          subst this
          simp at h0
        · exact absurd (by simpa using this h2) h0
      · rw [List.getD_eq_getElem?_getD, List.getElem?_take_of_lt (by omega), ← List.getD_eq_getElem?_getD]
        exact h0
  · have h1 := val_take_drop ds m ht.1
    have h2 : val (ds.drop m) = 0 := val_all_zero (fun d hd => by
      obtain ⟨i, hi, rfl⟩ := List.getElem_of_mem hd
      rw [List.getElem_drop]
      have h3 := ht.2.1 (m + i) (by omega) (by rw [List.length_drop] at hi; omega)
      rw [List.getD_eq_getElem?_getD, List.getElem?_eq_getElem (by rw [List.length_drop] at hi; omega)] at h3
      simpa using h3)
    rw [h2] at h1
    simpa using h1.symm
theorem own_trimmed {base n c t : Nat} {w : World} {A : Option Addr} {ds : List Int} (h : w.ownsRow base 166 1 (.slice A n c) n (U ds)) (ht : Trims ds t) (hd : Dig ds) :
    Pc base w (.slice A t c) (ds.take t) ∧ val (ds.take t) = val ds ∧ (ds.take t).length = t := by
  obtain ⟨h1, h2, h3⟩ := trims_parts ht
  have hn : ds.length = n := by have := h.1; simpa [U] using this
  refine ⟨⟨?_, hd.take t, h1⟩, h2, h3⟩
  rw [h3]
  refine ⟨by simp [U, Nat.min_eq_left ht.1], ?_⟩
  rcases h.2 with ⟨hv, rfl⟩ | ⟨g, cap, cur, hv, hb, hh, q1, q2, q3, q4⟩
  · injection hv with e1 e2 e3
    subst e1 e3
    have : t = 0 := by have := ht.1; omega
    subst this
    exact .inl ⟨rfl, rfl⟩
  · injection hv with e1 e2 e3
    subst e1 e3
    have htn : t ≤ n := by have := ht.1; omega
    refine .inr ⟨g, c, cur, rfl, hb, hh, by omega, q2, q3, ?_⟩
    rw [show U (ds.take t) = (U ds).take t from by simp [U, List.map_take], ← q4, List.take_take]
    congr 1
    omega
/-- A row of digits of one's own. -/
def CutPost (u : Nat) (k : Nat) (w : World) (e : Ending) (w' : World) : Prop :=
  ∃ v ds, e = .returned v ∧ Pc w.heap.size w' v ds ∧ val ds = (u : Int) ∧ ds.length ≤ k ∧ Below w.heap.size w w'

set_option maxRecDepth 100000 in
set_option maxHeartbeats 1600000 in
theorem cut_any (u : Nat) (w : World) (hz : (tn u).size ≤ 1000000000000) :
    Calls Tryz.prog 132 #[.string (tn u)] w (CutPost u ((tn u).size / 9 + 1) w) := by
  obtain ⟨i0, hi0, hz0, hz1, hz2⟩ := info_parts Tryz.infoU
  obtain ⟨l, hl⟩ : ∃ l, l = Lib.decDigits u := ⟨_, rfl⟩
  have hx : tn u = ⟨l.toArray⟩ := by rw [hl]; rfl
  have hd : ∀ c ∈ l, 48 ≤ c.toNat ∧ c.toNat ≤ 57 := by rw [hl]; exact dec_digit u
  have hsp : spell 0 l = u := by rw [hl]; exact spell_dec u
  have hsz : (tn u).size = l.length := by rw [hx]; rfl
  have HL := Lib.hid hl
  have HD := Lib.hid hd
  have HSP := Lib.hid hsp
  rw [hsz] at hz ⊢
  rw [hx]
  have HX := Lib.hid hx
  have hs2 : (⟨l.toArray⟩ : ByteArray).size = l.length := rfl
  clear hl hd hsp hx hsz
  obtain ⟨x, hx⟩ : ∃ x, x = (⟨l.toArray⟩ : ByteArray) := ⟨_, rfl⟩
  rw [← hx] at hs2 ⊢
  have HX2 := Lib.hid hx
  clear hx
  go_enter Tryz.func132, Tryz.ntmps132
  go_wp2_with (at_make; refine wpList_make_own _ rfl _ _ 171 rfl w.heap.size 166 i0 (.int .u64 0) 1 Tryz.underlying171 hi0 hz0 hz1 .i64 .i64 _ (l.length / 9 + 1) rfl rfl (by first | go_num | (rw [hs2]; go_num) | (go_loud (rw [hs2]; trace_state; fail))) (by rw [hz2]; omega) (by unfold maxLen; omega) (Nat.le_refl _) ?_; intro w1 hown hgrow)
  have hb1 : Below w.heap.size w w1 := ⟨hgrow.os, hgrow.tape, hgrow.output, hgrow.size, fun i hi => hgrow.block i hi (by simp)⟩
  have HO0 := Lib.hid hown
  clear hown hgrow
  go_loopw [3, 4] (fun sv se wr => ∃ (e : Int) (o : List Int), -9 ≤ e ∧ e ≤ (l.length : Int) ∧ se = .int .i64 e ∧ Hid (wr.ownsRow w.heap.size 166 1 sv o.length (U o)) ∧ Hid (Cut l e o) ∧ Below w.heap.size w wr) (fun _ se _ => (intOf se + 9).toNat)
  case atStart => exact ⟨_, [], by omega, Int.le_refl _, rfl, HO0.out, Cut.start l, hb1⟩
  case round =>
    obtain ⟨e, o, he0, he1, rfl, hown, hc, hb⟩ := hrel
    by_cases hpos : 0 < e
    · obtain ⟨a, ha⟩ : ∃ a, a = e.toNat - 9 := ⟨_, rfl⟩
      obtain ⟨en, hen⟩ : ∃ en : Nat, (en : Int) = e := ⟨e.toNat, by omega⟩
      subst hen
      obtain ⟨W, cc, hcv, hbW, -, hcell⟩ := run_bytes_seg wr l a en (by omega) (by omega)
      have ham : max 0 ((en : Int) - 9) = (a : Int) := by omega
      have HA := Lib.hid ha
      have HCELL := Lib.hid hcell
      have HBW := Lib.hid hbW
      rw [← HX2.out] at hcv
      clear ha hcell hbW
      obtain ⟨s, hs⟩ : ∃ s, s = seg l en := ⟨_, rfl⟩
      obtain ⟨m, hm⟩ : ∃ m, m = en - a := ⟨_, rfl⟩
      have hsl : s.length = m := by rw [hs, seg_len (by omega), hm, HA.out]; omega
      have hcell : ∀ j, j < m → W.cell? ⟨wr.heap.size, j, none⟩ = some (.int .u8 ((s.getD j 0).toNat : Nat)) := fun j hj => by
        rw [HCELL.out j (by omega), hs, seg]
        congr 3
        rw [HA.out]
        rfl
      have hdig : ∀ c ∈ s, 48 ≤ c.toNat ∧ c.toNat ≤ 57 := fun c hc => HD.out c (by rw [hs] at hc; exact List.mem_of_mem_drop (List.mem_of_mem_take hc))
      have hm9 : m ≤ 9 := by rw [hm, HA.out]; omega
      have HS := Lib.hid hs
      have HSL := Lib.hid hsl
      have HC2 := Lib.hid hcell
      have HDG := Lib.hid hdig
      rw [← hm] at hcv
      clear hs hsl hcell hdig HCELL hm
      go_wp2_with fail
      obtain ⟨wo, hwo⟩ : ∃ wo, wo = wr := ⟨_, rfl⟩
      subst hwo
      go_loopw [5, 27] (fun sn sj wq => ∃ (j acc : Nat), j ≤ m ∧ sn = .int .u64 acc ∧ sj = .int .i64 j ∧ Hid (acc = spell 0 (s.take j)) ∧ acc < 1000000000 ∧ wq = W) (fun _ sj _ => m - (intOf sj).toNat)
      case atStart => exact ⟨0, 0, Nat.zero_le _, rfl, rfl, rfl, by decide, rfl⟩
      case round =>
        obtain ⟨j, acc, hj, rfl, rfl, hacc, hlt9, rfl⟩ := hrel
        by_cases hjm : j < m
        · have c1 := HC2.out j hjm
          have hmem : s.getD j 0 ∈ s := by
            rw [List.getD_eq_getElem?_getD, List.getElem?_eq_getElem (by rw [HSL.out]; exact hjm)]
            exact List.getElem_mem _
          obtain ⟨d0, d1⟩ := HDG.out _ hmem
          have hst := spell_take s j (by rw [HSL.out]; exact hjm)
          rw [← hacc.out] at hst
          have hlt : spell 0 (s.take (j + 1)) < 10 ^ (s.take (j + 1)).length := spell_lt _ (fun c hc => HDG.out c (List.mem_of_mem_take hc))
          have hlt2 : spell 0 (s.take (j + 1)) < 1000000000 := by
            refine Nat.lt_of_lt_of_le hlt ?_
            exact Nat.pow_le_pow_right (by decide) (show _ ≤ 9 by rw [List.length_take, HSL.out]; omega)
          obtain ⟨cn, hcn⟩ : ∃ cn, cn = (s.getD j 0).toNat := ⟨_, rfl⟩
          rw [← hcn] at c1 d0 d1 hst
          rw [hst] at hlt2
          have HST := Lib.hid hst
          clear hst hcn hlt hmem
          go_wp2_with fail
          go_roundw
          case rel => exact ⟨j + 1, acc * 10 + (cn - 48), by omega, by go_num, by go_num, HST.out.symm, hlt2, trivial⟩
          case measure => simp [intOf]; omega
        · obtain rfl : j = m := by omega
          have hown1 := Lib.hid (own_nb hown.out HBW.out)
          have hacc9 : acc = spell 0 (seg l en) := by rw [hacc.out, ← HS.out, ← HSL.out, List.take_length]
          have hst : Hid (Cut l ((en : Int) - 9) (o ++ [(acc : Int)])) := by
            rw [hacc9]
            exact hc.out.step (by omega) (by omega) HD.out
          have hlen : Hid (9 * o.length ≤ l.length + 8) := hc.out.le
          have hsz2 : Hid (w.heap.size ≤ wr.heap.size) := Nat.le_trans hb.size HBW.out.size
          clear hacc9
          go_wp2_with (at_builtin; refine wpList_append_own _ rfl _ _ 171 rfl w.heap.size 166 i0 (.int .u64 0) 1 8 Tryz.underlying171 hi0 hz0 hz1 hz2 rfl (by decide) _ _ _ rfl (hown1.out.alloc _) ⟨wr.heap.size, 0, none⟩ 1 1 [.int .u64 acc] rfl rfl (cell_one_new _ _ _) (by intro u hu; simp at hu; subst hu; rfl) (by have := hlen.out; unfold maxLen; omega) (by have := hlen.out; omega) (by have := hsz2.out; simp; omega) ?_; intro v' w2 hown' hgrow' hnil')
          go_roundw
          case rel =>
            refine ⟨(en : Int) - 9, _, by omega, by omega, rfl, ?_, hst, nb_grown ((hb.trans (HBW.out.mono hb.size)).trans (nb_alloc _ _ |>.mono hsz2.out)) (hown1.out.alloc _) (Nat.le_refl _) hgrow'⟩
            have := hown'
            rw [List.length_append]
            exact Lib.hid (by simpa [U] using this)
          case measure => simp [intOf]; omega
    · obtain ⟨A, c, rfl, hn1, hn2, hrd⟩ := own_rd hown.out
      have HN := Lib.hid hn1
      have HR := Lib.hid hrd
      have HLE : Hid (9 * o.length ≤ l.length + 8) := hc.out.le
      clear hn1 hn2 hrd
      obtain ⟨m, hm⟩ : ∃ m, m = o.length := ⟨_, rfl⟩
      rw [← hm] at hown ⊢
      rw [← hm] at HN HR
      have HM := Lib.hid hm
      clear hm
      go_wp2_with fail
      go_wp2_with (go_at_call 138; refine (trim_any A m c o _ HR.out HN.out (by have := HM.out; have := HLE.out; omega)).mono ?_; rintro e w1 ⟨t, ht, rfl, rfl⟩)
      go_ret
      obtain ⟨h1, h2, h3⟩ := own_trimmed hown.out ht hc.out.dig
      refine ⟨_, o.take t, rfl, h1, ?_, ?_, hb⟩
      · rw [h2, hc.out.val, show e.toNat = 0 by omega, List.drop_zero, HSP.out]
      · rw [h3]
        have := ht.1
        have := HLE.out
        omega
end Go.Proofs.YtmfkpmepgbjmkaaGreatDoor
