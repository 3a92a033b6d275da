/-
  WALKS: decimal.pieces' take and back.
  PLAIN: the long division, digit by digit (what decimal.pieces' divide does).
  WALKS: decimal.pieces' scaled and divide.
  A LAW OF NO PROGRAM: 'append(s, make([]T, m)...)' ONTO A ROW OF ONE'S OWN, T of one cell.
-/
import Derived.Test.YtmfkpmepgbjmkaaGreatDoorA3
import Derived.Deep.CutBlock
import Derived.Lib.AppendZerosOnto
set_option linter.unusedVariables false
set_option linter.unusedSimpArgs false
namespace Go.Proofs.YtmfkpmepgbjmkaaGreatDoor
open Go.RowKit

/-- A block of cap digits, of which these are the first. -/
def OB (w : World) (g cap : Nat) (ds : List Int) : Prop := ∃ cur : Array Value, w.heap[g]? = some (.cells cur 166 (0, 0)) ∧ cur.size = cap ∧ cur.toList.take ds.length = U ds
section
variable {w w1 : World} {g cap : Nat} {ds : List Int}
theorem OB.row (h : OB w g cap ds) : VRow 166 w g (U ds) := by
  obtain ⟨cur, h1, _, h3⟩ := h
  exact ⟨cur, h1, by simpa [U] using h3⟩
theorem OB.lt (h : OB w g cap ds) : g < w.heap.size := h.row.lt
theorem OB.of_block (h : OB w g cap ds) (hb : w1.heap[g]? = w.heap[g]?) : OB w1 g cap ds := by
  obtain ⟨cur, h1, h2⟩ := h
  exact ⟨cur, hb.trans h1, h2⟩
theorem OB.cell (h : OB w g cap ds) {i : Nat} (hi : i < ds.length) : w.cell? ⟨g, i, none⟩ = some (.int .u64 (ds.getD i 0)) := by
  rw [h.row.cell (by simpa [U] using hi)]
  simp [U, List.getD_eq_getElem?_getD, List.getElem?_eq_getElem hi]
theorem OB.frozen (h : OB w g cap ds) (i : Nat) : w.frozen? ⟨g, i, none⟩ = false := h.row.frozen i
theorem OB.set (h : OB w g cap ds) (i : Nat) (x : Int) : OB (w.setCell ⟨g, i, none⟩ (.int .u64 x)) g cap (ds.set i x) := by
  obtain ⟨cur, hc, hs, ht⟩ := h
  refine ⟨cur.setIfInBounds i (.int .u64 x), ?_, by simp [hs], ?_⟩
  · simp [World.setCell, Array.getElem?_modify, hc]
  · rw [Array.toList_setIfInBounds, List.length_set, show U (ds.set i x) = (U ds).set i (.int .u64 x) from by simp [U, List.map_set]]
    conv => rhs; rw [← ht]
    rw [List.take_set]
theorem OB.own {base : Nat} (h : OB w g cap ds) (hb : base ≤ g) (hc : ds.length ≤ cap) (hm : cap ≤ maxLen) : w.ownsRow base 166 1 (.slice (some ⟨g, 0, none⟩) ds.length cap) ds.length (U ds) := by
  obtain ⟨cur, h1, h2, h3⟩ := h
  exact ⟨by simp [U], .inr ⟨g, cap, cur, rfl, hb, h1, hc, hm, by omega, by simpa using h3⟩⟩
theorem own_OB {base n : Nat} {v : Value} (h : w.ownsRow base 166 1 v n (U ds)) (hn : 0 < n) : ∃ g cap, v = .slice (some ⟨g, 0, none⟩) n cap ∧ n ≤ cap ∧ cap ≤ maxLen ∧ base ≤ g ∧ OB w g cap ds := by
  have hl : ds.length = n := by have := h.1; simpa [U] using this
  rcases h.2 with ⟨rfl, rfl⟩ | ⟨g, cap, cur, rfl, hb, hh, h1, h2, h3, h4⟩
  · omega
  · exact ⟨g, cap, rfl, h1, h2, hb, cur, hh, by omega, by rw [hl]; simpa using h4⟩
end
theorem val_take_any (ds : List Int) (k : Nat) : val (ds.take (k + 1)) = val (ds.take k) + B9 ^ k * ds.getD k 0 := by
  rcases Nat.lt_or_ge k ds.length with h | h
  · exact val_take_succ ds k h
  · rw [List.take_of_length_le (by omega), List.take_of_length_le h, List.getD_eq_getElem?_getD, List.getElem?_eq_none h]
    simp
theorem Rd.blk {k : IntKind} {w : World} {A : Option Addr} {n : Nat} {ds : List Int} (h : Rd k w A n ds) {w1 : World} {g : Nat} (hk : Kp (· = g) w w1) (hA : ∀ g', A = some ⟨g', 0, none⟩ → g' ≠ g) : Rd k w1 A n ds :=
  ⟨h.1, fun i hi => by
    obtain ⟨g', h1, h2⟩ := h.2 i hi
    exact ⟨g', h1, hk.cell h2 (hA g' h1)⟩⟩

/-- Multiples are taken away, up to place k. -/
structure Tk (at_ k : Nat) (N c b : Int) (es o0 o : List Int) : Prop where
  len : o.length = o0.length
  dig : Dig o
  far : ∀ j, at_ + k ≤ j → o.getD j 0 = o0.getD j 0
  val : val o + B9 ^ at_ * (N * val (es.take k)) = val o0 + B9 ^ (at_ + k) * (b + c)
  c0 : 0 ≤ c
  c1 : c < 1000000000
  b01 : b = 0 ∨ b = 1
theorem Tk.start (at_ : Nat) (N : Int) (es o : List Int) (hd : Dig o) : Tk at_ 0 N 0 0 es o o :=
  ⟨rfl, hd, fun _ _ => rfl, by simp [Go.Proofs.YtmfkpmepgbjmkaaGreatDoor.val], by decide, by decide, .inl rfl⟩
theorem Tk.step {at_ k : Nat} {N c b d b' : Int} {es o0 o : List Int} (h : Tk at_ k N c b es o0 o) (hk : at_ + k < o.length) (he : Dig es) (n0 : 0 ≤ N) (n1 : N < 1000000000)
    (hd : d = o.getD (at_ + k) 0 - (c + N * es.getD k 0) % 1000000000 - b + 1000000000 * b') (hb' : b' = 0 ∨ b' = 1) (d0 : 0 ≤ d) (d1 : d < 1000000000) :
    Tk at_ (k + 1) N ((c + N * es.getD k 0) / 1000000000) b' es o0 (o.set (at_ + k) d) := by
  obtain ⟨e0, e1⟩ := he.at_ k
  obtain ⟨p0, p1⟩ := mul_range n0 n1 e0 e1
  have hc0 := h.c0
  have hc1 := h.c1
  refine ⟨by rw [List.length_set]; exact h.len, h.dig.set _ d0 d1, fun j hj => ?_, ?_, by omega, by omega, hb'⟩
  · rw [getD_set_ne _ (by omega)]
    exact h.far j (by omega)
  · have hv := h.val
    rw [val_set o (at_ + k) hk, val_take_any, ← Nat.add_assoc, Int.pow_succ, hd]
    have e : B9 ^ at_ * (N * (Go.Proofs.YtmfkpmepgbjmkaaGreatDoor.val (es.take k) + B9 ^ k * es.getD k 0)) = B9 ^ at_ * (N * Go.Proofs.YtmfkpmepgbjmkaaGreatDoor.val (es.take k)) + B9 ^ (at_ + k) * (N * es.getD k 0) := by
      rw [Int.pow_add]
      grind
    rw [e]
    generalize N * es.getD k 0 = y at *
    generalize o.getD (at_ + k) 0 = x at *
    generalize B9 ^ (at_ + k) = p at *
    generalize B9 ^ at_ * (N * Go.Proofs.YtmfkpmepgbjmkaaGreatDoor.val (es.take k)) = z at *
    generalize Go.Proofs.YtmfkpmepgbjmkaaGreatDoor.val o = vo at *
    generalize Go.Proofs.YtmfkpmepgbjmkaaGreatDoor.val o0 = v0 at *
    have em : (c + y) % 1000000000 = (c + y) - 1000000000 * ((c + y) / 1000000000) := by omega
    rw [em]
    generalize (c + y) / 1000000000 = q
    show vo + p * (x - (c + y - 1000000000 * q) - b + 1000000000 * b' - x) + (z + p * y) = v0 + p * 1000000000 * (b' + q)
    grind

/-- What take leaves. -/
def TakePost (g cap at_ m : Nat) (N : Int) (ds es : List Int) (w : World) (e : Ending) (w' : World) : Prop :=
  ∃ (b : Bool) (o : List Int), e = .returned (.bool b) ∧ OB w' g cap o ∧ o.length = ds.length ∧ Dig o ∧ (∀ j, at_ + m + 1 ≤ j → o.getD j 0 = ds.getD j 0) ∧
    val o + B9 ^ at_ * (N * val es) = val ds + B9 ^ (at_ + (m + 1)) * (if b then 1 else 0) ∧ Kp (· = g) w w'

set_option maxRecDepth 100000 in
set_option maxHeartbeats 1600000 in
theorem take_any (g n cap m c at_ : Nat) (A : Option Addr) (N : Int) (ds es : List Int) (w : World) (hl : ds.length = n) (ho : OB w g cap ds) (hr : Rd .u64 w A m es) (hA : ∀ g', A = some ⟨g', 0, none⟩ → g' ≠ g)
    (hn : n ≤ 1000000000000) (hat : at_ + m < n) (hd : Dig ds) (he : Dig es) (n0 : 0 ≤ N) (n1 : N < 1000000000) :
    Calls Tryz.prog 140 #[.slice (some ⟨g, 0, none⟩) n cap, .slice A m c, .int .u64 N, .int .i64 at_] w (TakePost g cap at_ m N ds es w) := by
  have H1 := Lib.hid hr
  have HA := Lib.hid hA
  have HD := Lib.hid hd
  have HE := Lib.hid he
  have HL := Lib.hid hl
  have L1 := Lib.hid hr.1
  clear hr hA hd he hl
  go_enter Tryz.func140, Tryz.ntmps140
  go_wp2_with fail
  go_loopw [9, 10, 11] (fun sb sc sk wr => ∃ (k : Nat) (b cc : Int) (o : List Int), k ≤ m + 1 ∧ sb = .int .i64 b ∧ sc = .int .u64 cc ∧ sk = .int .i64 k ∧ OB wr g cap o ∧ Hid (Tk at_ k N cc b es ds o) ∧ Kp (· = g) w wr ∧ (k = m + 1 → cc = 0)) (fun _ _ sk _ => m + 1 - (intOf sk).toNat)
  case atStart => exact ⟨0, 0, 0, ds, by omega, rfl, rfl, rfl, ho, Tk.start at_ N es ds HD.out, Kp.refl _ _, (fun h => by omega)⟩
  case round =>
    obtain ⟨k, b, cc, o, hk, rfl, rfl, rfl, hob, ht, hkp, hlast⟩ := hrel
    by_cases hle : k ≤ m
    · have hol : o.length = n := ht.out.len.trans HL.out
      have c3 := hob.cell (i := at_ + k) (by omega)
      have c4 := hob.frozen (at_ + k)
      obtain ⟨x, hx⟩ : ∃ x, x = o.getD (at_ + k) 0 := ⟨_, rfl⟩
      rw [← hx] at c3
      obtain ⟨x0, x1⟩ : 0 ≤ x ∧ x < 1000000000 := by rw [hx]; exact ht.out.dig.at_ _
      have k0 := ht.out.c0
      have k1 := ht.out.c1
      have b0 : 0 ≤ b := by rcases ht.out.b01 with h | h <;> omega
      have b1 : b ≤ 1 := by rcases ht.out.b01 with h | h <;> omega
      have HX := Lib.hid hx
      have HO := Lib.hid hol
      clear hx hol
      by_cases hkm : k < m
      · obtain ⟨g2, hA2, c2⟩ := (H1.out.blk hkp HA.out).at_ (i := k) hkm
        subst hA2
        obtain ⟨y, hy⟩ : ∃ y, y = es.getD k 0 := ⟨_, rfl⟩
        rw [← hy] at c2
        obtain ⟨y0, y1⟩ : 0 ≤ y ∧ y < 1000000000 := by rw [hy]; exact HE.out.at_ _
        obtain ⟨p0, p1⟩ := mul_range n0 n1 y0 y1
        have hstep : Hid (∀ d b', d = x - (cc + N * y) % 1000000000 - b + 1000000000 * b' → (b' = 0 ∨ b' = 1) → 0 ≤ d → d < 1000000000 → Tk at_ (k + 1) N ((cc + N * y) / 1000000000) b' es ds (o.set (at_ + k) d)) := fun d b' q1 q2 q3 q4 => by
          rw [HX.out, hy] at q1
          rw [hy]
          exact ht.out.step (by rw [HO.out]; omega) HE.out n0 n1 q1 q2 q3 q4
        have HY := Lib.hid hy
        clear hy
        by_cases hneg : x - (cc + N * y) % 1000000000 - b < 0
        · have hst : Hid (Tk at_ (k + 1) N ((cc + N * y) / 1000000000) 1 es ds (o.set (at_ + k) (x - (cc + N * y) % 1000000000 - b + 1000000000))) := hstep.out _ _ (by omega) (by omega) (by omega) (by omega)
          go_wp2_with fail
          go_roundw
          case rel => exact ⟨k + 1, 1, _, _, by omega, rfl, by go_num, by go_num, hob.set _ _, hst, hkp.set (p := ⟨g, at_ + k, none⟩) rfl _, (fun h => by omega)⟩
          case measure => (simp [intOf]) <;> omega
        · have hst : Hid (Tk at_ (k + 1) N ((cc + N * y) / 1000000000) 0 es ds (o.set (at_ + k) (x - (cc + N * y) % 1000000000 - b))) := hstep.out _ _ (by omega) (by omega) (by omega) (by omega)
          go_wp2_with fail
          go_roundw
          case rel => exact ⟨k + 1, 0, _, _, by omega, rfl, by go_num, by go_num, hob.set _ _, hst, hkp.set (p := ⟨g, at_ + k, none⟩) rfl _, (fun h => by omega)⟩
          case measure => (simp [intOf]) <;> omega
      · obtain rfl : k = m := by omega
        obtain ⟨y, hy⟩ : ∃ y : Int, y = 0 := ⟨_, rfl⟩
        have hy' : y = es.getD k 0 := by rw [List.getD_eq_getElem?_getD, List.getElem?_eq_none (by rw [L1.out]; exact Nat.le_refl _), hy]; rfl
        obtain ⟨y0, y1⟩ : 0 ≤ y ∧ y < 1000000000 := by rw [hy']; exact HE.out.at_ _
        obtain ⟨p0, p1⟩ := mul_range n0 n1 y0 y1
        have hstep : Hid (∀ d b', d = x - (cc + N * y) % 1000000000 - b + 1000000000 * b' → (b' = 0 ∨ b' = 1) → 0 ≤ d → d < 1000000000 → Tk at_ (k + 1) N ((cc + N * y) / 1000000000) b' es ds (o.set (at_ + k) d)) := fun d b' q1 q2 q3 q4 => by
          rw [HX.out, hy'] at q1
          rw [hy']
          exact ht.out.step (by rw [HO.out]; omega) HE.out n0 n1 q1 q2 q3 q4
        have e1 : cc + N * y = cc := by rw [hy, Int.mul_zero, Int.add_zero]
        rw [e1] at hstep
        clear e1 hy hy' p0 p1 y0 y1
        by_cases hneg : x - cc % 1000000000 - b < 0
        · have hst : Hid (Tk at_ (k + 1) N (cc / 1000000000) 1 es ds (o.set (at_ + k) (x - cc % 1000000000 - b + 1000000000))) := hstep.out _ _ (by omega) (by omega) (by omega) (by omega)
          go_wp2_with fail
          go_roundw
          case rel => exact ⟨k + 1, 1, _, _, by omega, rfl, by go_num, by go_num, hob.set _ _, hst, hkp.set (p := ⟨g, at_ + k, none⟩) rfl _, (fun h => by omega)⟩
          case measure => (simp [intOf]) <;> omega
        · have hst : Hid (Tk at_ (k + 1) N (cc / 1000000000) 0 es ds (o.set (at_ + k) (x - cc % 1000000000 - b))) := hstep.out _ _ (by omega) (by omega) (by omega) (by omega)
          go_wp2_with fail
          go_roundw
          case rel => exact ⟨k + 1, 0, _, _, by omega, rfl, by go_num, by go_num, hob.set _ _, hst, hkp.set (p := ⟨g, at_ + k, none⟩) rfl _, (fun h => by omega)⟩
          case measure => (simp [intOf]) <;> omega
    · obtain rfl : k = m + 1 := by omega
      obtain rfl : cc = 0 := hlast rfl
      rcases ht.out.b01 with rfl | rfl
      · go_wp2_with fail
        go_ret
        refine ⟨false, o, rfl, hob, ht.out.len, ht.out.dig, ht.out.far, ?_, hkp⟩
        have := ht.out.val
        rw [List.take_of_length_le (by rw [L1.out]; omega)] at this
        simpa using this
      · go_wp2_with fail
        go_ret
        refine ⟨true, o, rfl, hob, ht.out.len, ht.out.dig, ht.out.far, ?_, hkp⟩
        have := ht.out.val
        rw [List.take_of_length_le (by rw [L1.out]; omega)] at this
        simpa using this

/-! ### back -/
structure Bk (at_ k : Nat) (c : Int) (es o0 o : List Int) : Prop where
  len : o.length = o0.length
  dig : Dig o
  far : ∀ j, at_ + k ≤ j → o.getD j 0 = o0.getD j 0
  val : val o + B9 ^ (at_ + k) * c = val o0 + B9 ^ at_ * val (es.take k)
  c0 : 0 ≤ c
  c1 : c ≤ 1
theorem Bk.start (at_ : Nat) (es o : List Int) (hd : Dig o) : Bk at_ 0 0 es o o :=
  ⟨rfl, hd, fun _ _ => rfl, by simp [Go.Proofs.YtmfkpmepgbjmkaaGreatDoor.val], by decide, by decide⟩
theorem Bk.step {at_ k : Nat} {c : Int} {es o0 o : List Int} (h : Bk at_ k c es o0 o) (hk : at_ + k < o.length) (he : Dig es) :
    Bk at_ (k + 1) ((c + o.getD (at_ + k) 0 + es.getD k 0) / 1000000000) es o0 (o.set (at_ + k) ((c + o.getD (at_ + k) 0 + es.getD k 0) % 1000000000)) := by
  obtain ⟨e0, e1⟩ := he.at_ k
  obtain ⟨x0, x1⟩ := h.dig.at_ (at_ + k)
  have hc0 := h.c0
  have hc1 := h.c1
  refine ⟨by rw [List.length_set]; exact h.len, h.dig.set _ (by omega) (by omega), fun j hj => ?_, ?_, by omega, by omega⟩
  · rw [getD_set_ne _ (by omega)]
    exact h.far j (by omega)
  · have hv := h.val
    rw [val_set o (at_ + k) hk, val_take_any, ← Nat.add_assoc, Int.pow_succ]
    have e : B9 ^ at_ * (Go.Proofs.YtmfkpmepgbjmkaaGreatDoor.val (es.take k) + B9 ^ k * es.getD k 0) = B9 ^ at_ * Go.Proofs.YtmfkpmepgbjmkaaGreatDoor.val (es.take k) + B9 ^ (at_ + k) * es.getD k 0 := by
      rw [Int.pow_add]
      grind
    rw [e]
    generalize es.getD k 0 = y at *
    generalize o.getD (at_ + k) 0 = x at *
    generalize B9 ^ (at_ + k) = p at *
    generalize B9 ^ at_ * Go.Proofs.YtmfkpmepgbjmkaaGreatDoor.val (es.take k) = z at *
    generalize Go.Proofs.YtmfkpmepgbjmkaaGreatDoor.val o = vo at *
    generalize Go.Proofs.YtmfkpmepgbjmkaaGreatDoor.val o0 = v0 at *
    have em : (c + x + y) % 1000000000 = (c + x + y) - 1000000000 * ((c + x + y) / 1000000000) := by omega
    rw [em]
    generalize (c + x + y) / 1000000000 = q
    show vo + p * (c + x + y - 1000000000 * q - x) + p * 1000000000 * q = v0 + (z + p * y)
    grind
def BackPost (g cap at_ m : Nat) (ds es : List Int) (w : World) (e : Ending) (w' : World) : Prop :=
  ∃ (c : Int) (o : List Int), e = .returned (.tuple #[]) ∧ OB w' g cap o ∧ o.length = ds.length ∧ Dig o ∧ (∀ j, at_ + m + 1 ≤ j → o.getD j 0 = ds.getD j 0) ∧
    val o + B9 ^ (at_ + (m + 1)) * c = val ds + B9 ^ at_ * val es ∧ 0 ≤ c ∧ c ≤ 1 ∧ Kp (· = g) w w'

set_option maxRecDepth 100000 in
set_option maxHeartbeats 1600000 in
theorem back_any (g n cap m c at_ : Nat) (A : Option Addr) (ds es : List Int) (w : World) (hl : ds.length = n) (ho : OB w g cap ds) (hr : Rd .u64 w A m es) (hA : ∀ g', A = some ⟨g', 0, none⟩ → g' ≠ g)
    (hn : n ≤ 1000000000000) (hat : at_ + m < n) (hd : Dig ds) (he : Dig es) :
    Calls Tryz.prog 137 #[.slice (some ⟨g, 0, none⟩) n cap, .slice A m c, .int .i64 at_] w (BackPost g cap at_ m ds es w) := by
  have H1 := Lib.hid hr
  have HA := Lib.hid hA
  have HD := Lib.hid hd
  have HE := Lib.hid he
  have HL := Lib.hid hl
  have L1 := Lib.hid hr.1
  clear hr hA hd he hl
  go_enter Tryz.func137, Tryz.ntmps137
  go_wp2_with fail
  go_loopw [6, 7] (fun sc sk wr => ∃ (k : Nat) (cc : Int) (o : List Int), k ≤ m + 1 ∧ sc = .int .u64 cc ∧ sk = .int .i64 k ∧ OB wr g cap o ∧ Hid (Bk at_ k cc es ds o) ∧ Kp (· = g) w wr) (fun _ sk _ => m + 1 - (intOf sk).toNat)
  case atStart => exact ⟨0, 0, ds, by omega, rfl, rfl, ho, Bk.start at_ es ds HD.out, Kp.refl _ _⟩
  case round =>
    obtain ⟨k, cc, o, hk, rfl, rfl, hob, ht, hkp⟩ := hrel
    by_cases hle : k ≤ m
    · have hol : o.length = n := ht.out.len.trans HL.out
      have c3 := hob.cell (i := at_ + k) (by omega)
      have c4 := hob.frozen (at_ + k)
      obtain ⟨x, hx⟩ : ∃ x, x = o.getD (at_ + k) 0 := ⟨_, rfl⟩
      rw [← hx] at c3
      obtain ⟨x0, x1⟩ : 0 ≤ x ∧ x < 1000000000 := by rw [hx]; exact ht.out.dig.at_ _
      have k0 := ht.out.c0
      have k1 := ht.out.c1
      have hst := ht.out.step (by rw [hol]; omega) HE.out
      rw [← hx] at hst
      clear hx hol
      by_cases hkm : k < m
      · obtain ⟨g2, hA2, c2⟩ := (H1.out.blk hkp HA.out).at_ (i := k) hkm
        subst hA2
        obtain ⟨y, hy⟩ : ∃ y, y = es.getD k 0 := ⟨_, rfl⟩
        rw [← hy] at c2 hst
        obtain ⟨y0, y1⟩ : 0 ≤ y ∧ y < 1000000000 := by rw [hy]; exact HE.out.at_ _
        have HST := Lib.hid hst
        clear hst hy
        go_wp2_with fail
        go_roundw
        case rel => exact ⟨k + 1, _, _, by omega, rfl, by go_num, hob.set _ _, HST, hkp.set (p := ⟨g, at_ + k, none⟩) rfl _⟩
        case measure => (simp [intOf]) <;> omega
      · obtain rfl : k = m := by omega
        have hy : es.getD k 0 = 0 := by rw [List.getD_eq_getElem?_getD, List.getElem?_eq_none (by rw [L1.out]; exact Nat.le_refl _)]; rfl
        rw [hy, Int.add_zero] at hst
        have HST := Lib.hid hst
        clear hst hy
        go_wp2_with fail
        go_roundw
        case rel => exact ⟨k + 1, _, _, by omega, rfl, by go_num, hob.set _ _, HST, hkp.set (p := ⟨g, at_ + k, none⟩) rfl _⟩
        case measure => (simp [intOf]) <;> omega
    · obtain rfl : k = m + 1 := by omega
      go_wp2_with fail
      go_end0
      refine ⟨cc, o, rfl, hob, ht.out.len, ht.out.dig, ht.out.far, ?_, ht.out.c0, ht.out.c1, hkp⟩
      have := ht.out.val
      rw [List.take_of_length_le (by rw [L1.out]; omega)] at this
      exact this
end Go.Proofs.YtmfkpmepgbjmkaaGreatDoor

namespace Go.Proofs.YtmfkpmepgbjmkaaGreatDoor
open Go.RowKit

theorem far_zero {a : List Int} {k : Nat} (hd : Dig a) (h : val a < B9 ^ k) : ∀ j, k ≤ j → a.getD j 0 = 0 := by
  intro j hj
  obtain ⟨h0, h1⟩ := hd.at_ j
  rcases Int.lt_or_eq_of_le h0 with hp | hp
  · exfalso
    have hjl : j < a.length := by
      rcases Nat.lt_or_ge j a.length with h' | h'
      · exact h'
      · rw [List.getD_eq_getElem?_getD, List.getElem?_eq_none h'] at hp
        exact absurd hp (by decide)
    have e := val_take_drop a j (by omega)
    have e2 := val_nonneg (hd.take j)
    have e3 : val (a.drop j) = a.getD j 0 + 1000000000 * val (a.drop (j + 1)) := val_drop_cons a j hjl
    have e4 := val_nonneg (hd.drop (j + 1))
    have e5 : B9 ^ j * 1 ≤ B9 ^ j * val (a.drop j) := Int.mul_le_mul_of_nonneg_left (by omega) (Int.le_of_lt (pow_pos9 j))
    have e6 := pow_le9 hj
    omega
  · exact hp.symm
theorem lt_of_far {a : List Int} {k : Nat} (hd : Dig a) (h : ∀ j, k ≤ j → a.getD j 0 = 0) : val a < B9 ^ k := by
  rcases Nat.lt_or_ge k a.length with hk | hk
  · have e := val_take_drop a k (by omega)
    have e2 : val (a.drop k) = 0 := val_all_zero (fun d hd => by
      obtain ⟨i, hi, rfl⟩ := List.getElem_of_mem hd
      rw [List.getElem_drop]
      have h3 := h (k + i) (by omega)
      rw [List.getD_eq_getElem?_getD, List.getElem?_eq_getElem (by rw [List.length_drop] at hi; omega)] at h3
      simpa using h3)
    have e3 := val_lt (hd.take k)
    rw [List.length_take, Nat.min_eq_left (by omega)] at e3
    rw [e2, Int.mul_zero] at e
    omega
  · have e3 := val_lt hd
    have e4 := pow_le9 hk
    omega

section
variable {V b lo bl L a2 b1 b2 high g rest : Int}
theorem guess_start (hL : 0 < L) (hV : V = lo + L * (a2 + 1000000000 * high)) (hlo : lo < L) (hb : b = bl + L * (b2 + 1000000000 * b1)) (hbl : 0 ≤ bl) (h2 : 0 ≤ b2) (ha : a2 < 1000000000) (h1 : 0 < b1) (hh : 0 ≤ high) :
    V < (high / b1 + 1) * b := by
  have e := Int.mul_ediv_add_emod high b1
  have e1 := Int.emod_lt_of_pos high h1
  have g0 : 0 ≤ high / b1 := Int.ediv_nonneg hh (Int.le_of_lt h1)
  generalize high / b1 = q at *
  generalize high % b1 = r at *
  have k1 : 0 ≤ (q + 1) * bl := Int.mul_nonneg (by omega) hbl
  have k2 : 0 ≤ L * ((q + 1) * b2) := Int.mul_nonneg (Int.le_of_lt hL) (Int.mul_nonneg (by omega) h2)
  have k3 : L * (1000000000 * (high + 1)) ≤ L * (1000000000 * ((q + 1) * b1)) := by
    apply Int.mul_le_mul_of_nonneg_left _ (Int.le_of_lt hL)
    have : (q + 1) * b1 = b1 * q + b1 := by grind
    omega
  have k4 : L * a2 ≤ L * 999999999 := Int.mul_le_mul_of_nonneg_left (by omega) (Int.le_of_lt hL)
  have x1 : (q + 1) * b = (q + 1) * bl + L * ((q + 1) * b2) + L * (1000000000 * ((q + 1) * b1)) := by rw [hb]; grind
  have x2 : V = lo + L * a2 + L * (1000000000 * high) := by rw [hV]; grind
  have x3 : L * (1000000000 * (high + 1)) = L * (1000000000 * high) + 1000000000 * L := by grind
  have x4 : L * 999999999 = 999999999 * L := by grind
  omega
theorem guess_down1 (hlt : V < b * 1000000000) (hb : 0 ≤ b) (hg : 1000000000 ≤ g) : V < g * b := by
  have : 1000000000 * b ≤ g * b := Int.mul_le_mul_of_nonneg_right hg hb
  omega
theorem guess_down2 (hL : 0 < L) (hV : V = lo + L * (a2 + 1000000000 * high)) (hlo : lo < L) (hb : b = bl + L * (b2 + 1000000000 * b1)) (hbl : 0 ≤ bl) (hg : 0 ≤ g) (he : g * b1 + rest = high) (h : rest * 1000000000 + a2 < g * b2) : V < g * b := by
  have k1 : 0 ≤ g * bl := Int.mul_nonneg hg hbl
  have k2 : L * (rest * 1000000000 + a2 + 1) ≤ L * (g * b2) := Int.mul_le_mul_of_nonneg_left (by omega) (Int.le_of_lt hL)
  have x1 : g * b = g * bl + L * (g * b2) + L * (1000000000 * (g * b1)) := by rw [hb]; grind
  have x2 : V = lo + L * a2 + L * (1000000000 * (g * b1)) + L * (rest * 1000000000) := by rw [hV, ← he]; grind
  have x3 : L * (rest * 1000000000 + a2 + 1) = L * (rest * 1000000000) + L * a2 + L := by grind
  omega
theorem guess_exit (hL : 0 < L) (hV : V = lo + L * (a2 + 1000000000 * high)) (hlo : 0 ≤ lo) (hb : b = bl + L * (b2 + 1000000000 * b1)) (hbl0 : 0 ≤ bl) (hbl : bl < L) (h1 : 0 < b1) (h20 : 0 ≤ b2) (h21 : b2 < 1000000000) (ha0 : 0 ≤ a2) (hg : 0 ≤ g) (hg1 : g < 1000000000)
    (he : g * b1 + rest = high) (h : 1000000000 ≤ rest ∨ g * b2 ≤ rest * 1000000000 + a2) : g * b < V + b := by
  have h' : g * b2 ≤ rest * 1000000000 + a2 := by
    rcases h with h | h
    · have := (mul_range hg hg1 h20 h21).2
      omega
    · exact h
  have k1 : g * bl ≤ g * L := Int.mul_le_mul_of_nonneg_left (by omega) hg
  have k2 : L * (g * b2) ≤ L * (rest * 1000000000 + a2) := Int.mul_le_mul_of_nonneg_left h' (Int.le_of_lt hL)
  have k3 : g * L ≤ 999999999 * L := Int.mul_le_mul_of_nonneg_right (by omega) (Int.le_of_lt hL)
  have k4 : 0 ≤ L * b2 := Int.mul_nonneg (Int.le_of_lt hL) h20
  have k5 : L * 1 ≤ L * b1 := Int.mul_le_mul_of_nonneg_left (by omega) (Int.le_of_lt hL)
  have x1 : g * b = g * bl + L * (g * b2) + L * (1000000000 * (g * b1)) := by rw [hb]; grind
  have x2 : V = lo + L * a2 + L * (1000000000 * (g * b1)) + L * (rest * 1000000000) := by rw [hV, ← he]; grind
  have x3 : L * (rest * 1000000000 + a2) = L * (rest * 1000000000) + L * a2 := by grind
  have x4 : b = bl + L * b2 + 1000000000 * (L * b1) := by rw [hb]; grind
  omega
end

/-- The dividend's and the divisor's heads. -/
theorem head_a {a : List Int} {i n : Nat} (hd : Dig a) (hn : 2 ≤ n) (hz : ∀ j, i + n + 1 ≤ j → a.getD j 0 = 0) :
    val a = val (a.take (i + n - 2)) + B9 ^ (i + n - 2) * (a.getD (i + n - 2) 0 + 1000000000 * (a.getD (i + n) 0 * 1000000000 + a.getD (i + n - 1) 0)) ∧ 0 ≤ val (a.take (i + n - 2)) ∧ val (a.take (i + n - 2)) < B9 ^ (i + n - 2) := by
  refine ⟨?_, val_nonneg (hd.take _), lt_of_far (hd.take _) (fun j hj => by
    rw [List.getD_eq_getElem?_getD, List.getElem?_take_eq_none hj]; rfl)⟩
  have e0 : val a = val (a.take (i + n + 1)) := by
    rcases Nat.lt_or_ge (i + n + 1) a.length with h | h
    · have e := val_take_drop a (i + n + 1) (by omega)
      have e2 : val (a.drop (i + n + 1)) = 0 := val_all_zero (fun d hd => by
        obtain ⟨t, ht, rfl⟩ := List.getElem_of_mem hd
        rw [List.getElem_drop]
        have h3 := hz (i + n + 1 + t) (by omega)
        rw [List.getD_eq_getElem?_getD, List.getElem?_eq_getElem (by rw [List.length_drop] at ht; omega)] at h3
        simpa using h3)
      rw [e2, Int.mul_zero, Int.add_zero] at e
      exact e
    · rw [List.take_of_length_le h]
  obtain ⟨k, rfl⟩ : ∃ k, n = k + 2 := ⟨n - 2, by omega⟩
  rw [e0, show i + (k + 2) + 1 = ((i + k) + 1 + 1) + 1 by omega, val_take_any, val_take_any, val_take_any, show i + (k + 2) - 2 = i + k by omega, show i + (k + 2) - 1 = i + k + 1 by omega, show i + (k + 2) = i + k + 1 + 1 by omega, Int.pow_succ, Int.pow_succ, Int.pow_succ]
  generalize B9 ^ (i + k) = p
  generalize a.getD (i + k) 0 = x0
  generalize a.getD (i + k + 1) 0 = x1
  generalize a.getD (i + k + 1 + 1) 0 = x2
  generalize val (a.take (i + k)) = x3
  show x3 + p * x0 + p * 1000000000 * x1 + p * 1000000000 * 1000000000 * x2 = _
  grind
theorem head_b {b : List Int} {i n : Nat} (hd : Dig b) (hl : b.length = n) (hn : 2 ≤ n) :
    B9 ^ i * val b = B9 ^ i * val (b.take (n - 2)) + B9 ^ (i + n - 2) * (b.getD (n - 2) 0 + 1000000000 * b.getD (n - 1) 0) ∧ 0 ≤ B9 ^ i * val (b.take (n - 2)) ∧ B9 ^ i * val (b.take (n - 2)) < B9 ^ (i + n - 2) := by
  have hp := pow_pos9 i
  have h0 := val_nonneg (hd.take (n - 2))
  have h1 := val_lt (hd.take (n - 2))
  rw [List.length_take, Nat.min_eq_left (by omega)] at h1
  have e1 : B9 ^ (i + n - 2) = B9 ^ i * B9 ^ (n - 2) := by rw [← Int.pow_add]; congr 1; omega
  refine ⟨?_, Int.mul_nonneg (Int.le_of_lt hp) h0, by rw [e1]; exact Int.mul_lt_mul_of_pos_left h1 hp⟩
  have e0 : val b = val (b.take n) := by rw [List.take_of_length_le (by omega)]
  obtain ⟨k, rfl⟩ : ∃ k, n = k + 2 := ⟨n - 2, by omega⟩
  rw [e0, e1, show k + 2 - 2 = k by omega, show k + 2 - 1 = k + 1 by omega, val_take_any, val_take_any, Int.pow_succ]
  generalize B9 ^ k = p
  generalize B9 ^ i = q
  have : B9 = 1000000000 := rfl
  rw [this]
  grind

/-- The digits from place i on are known. -/
structure Dv (la m i : Nat) (V0 : Int) (b a out : List Int) : Prop where
  alen : a.length = la
  olen : out.length = m
  da : Dig a
  do_ : Dig out
  low : ∀ j, j < i → out.getD j 0 = 0
  val : V0 = Go.Proofs.YtmfkpmepgbjmkaaGreatDoor.val b * Go.Proofs.YtmfkpmepgbjmkaaGreatDoor.val out + Go.Proofs.YtmfkpmepgbjmkaaGreatDoor.val a
  lt : Go.Proofs.YtmfkpmepgbjmkaaGreatDoor.val a < B9 ^ i * Go.Proofs.YtmfkpmepgbjmkaaGreatDoor.val b
theorem Dv.far {la m i n : Nat} {V0 : Int} {b a out : List Int} (h : Dv la m (i + 1) V0 b a out) (hb : Dig b) (hl : b.length = n) : ∀ j, i + n + 1 ≤ j → a.getD j 0 = 0 := by
  apply far_zero h.da
  have h1 := val_lt hb
  rw [hl] at h1
  have h2 : B9 ^ (i + 1) * Go.Proofs.YtmfkpmepgbjmkaaGreatDoor.val b < B9 ^ (i + 1) * B9 ^ n := Int.mul_lt_mul_of_pos_left h1 (pow_pos9 _)
  rw [← Int.pow_add, show i + 1 + n = i + n + 1 by omega] at h2
  have := h.lt
  omega
/-- The digit fits at once, .. -/
theorem Dv.hit {la m i n : Nat} {V0 g : Int} {b a o out : List Int} (h : Dv la m (i + 1) V0 b a out) (hi : i < m) (hg0 : 0 ≤ g) (hg1 : g < 1000000000) (hlen : o.length = a.length) (ho : Dig o)
    (hv : Go.Proofs.YtmfkpmepgbjmkaaGreatDoor.val o + B9 ^ i * (g * Go.Proofs.YtmfkpmepgbjmkaaGreatDoor.val b) = Go.Proofs.YtmfkpmepgbjmkaaGreatDoor.val a) (hlt : Go.Proofs.YtmfkpmepgbjmkaaGreatDoor.val a < (g + 1) * (B9 ^ i * Go.Proofs.YtmfkpmepgbjmkaaGreatDoor.val b)) : Dv la m i V0 b o (out.set i g) := by
  refine ⟨hlen.trans h.alen, by rw [List.length_set]; exact h.olen, ho, h.do_.set _ hg0 hg1, fun j hj => by rw [getD_set_ne _ (by omega)]; exact h.low j (by omega), ?_, ?_⟩
  · rw [val_set out i (by rw [h.olen]; exact hi), h.low i (by omega), Int.sub_zero, h.val, ← hv]
    grind
  · have : (g + 1) * (B9 ^ i * Go.Proofs.YtmfkpmepgbjmkaaGreatDoor.val b) = B9 ^ i * (g * Go.Proofs.YtmfkpmepgbjmkaaGreatDoor.val b) + B9 ^ i * Go.Proofs.YtmfkpmepgbjmkaaGreatDoor.val b := by grind
    omega
theorem Dv.pos {la m i n : Nat} {V0 g : Int} {b a o out : List Int} (h : Dv la m (i + 1) V0 b a out) (hb : Dig b) (hl : b.length = n)
    (ho : Dig o) (hfar : ∀ j, i + n + 1 ≤ j → o.getD j 0 = a.getD j 0)
    (hv : Go.Proofs.YtmfkpmepgbjmkaaGreatDoor.val o + B9 ^ i * (g * Go.Proofs.YtmfkpmepgbjmkaaGreatDoor.val b) = Go.Proofs.YtmfkpmepgbjmkaaGreatDoor.val a + B9 ^ (i + (n + 1))) : 0 < g := by
  have hz := h.far hb hl
  have hW : Go.Proofs.YtmfkpmepgbjmkaaGreatDoor.val o < B9 ^ (i + n + 1) := lt_of_far ho (fun j hj => by rw [hfar j hj]; exact hz j hj)
  rw [show i + (n + 1) = i + n + 1 by omega] at hv
  have ha := val_nonneg h.da
  have e1 : B9 ^ i * (g * Go.Proofs.YtmfkpmepgbjmkaaGreatDoor.val b) = g * (B9 ^ i * Go.Proofs.YtmfkpmepgbjmkaaGreatDoor.val b) := by grind
  rw [e1] at hv
  rcases Int.lt_or_le 0 g with h' | h'
  · exact h'
  · exfalso
    have : g * (B9 ^ i * Go.Proofs.YtmfkpmepgbjmkaaGreatDoor.val b) ≤ 0 * (B9 ^ i * Go.Proofs.YtmfkpmepgbjmkaaGreatDoor.val b) := Int.mul_le_mul_of_nonneg_right h' (Int.mul_nonneg (Int.le_of_lt (pow_pos9 i)) (val_nonneg hb))
    omega
/-- .. or it was one too great. -/
theorem Dv.miss {la m i n : Nat} {V0 g c : Int} {b a o o2 out : List Int} (h : Dv la m (i + 1) V0 b a out) (hb : Dig b) (hl : b.length = n) (hi : i < m) (hg1 : g < 1000000000)
    (hlen : o.length = a.length) (ho : Dig o) (hfar : ∀ j, i + n + 1 ≤ j → o.getD j 0 = a.getD j 0)
    (hv : Go.Proofs.YtmfkpmepgbjmkaaGreatDoor.val o + B9 ^ i * (g * Go.Proofs.YtmfkpmepgbjmkaaGreatDoor.val b) = Go.Proofs.YtmfkpmepgbjmkaaGreatDoor.val a + B9 ^ (i + (n + 1)))
    (hlen2 : o2.length = o.length) (ho2 : Dig o2) (hfar2 : ∀ j, i + n + 1 ≤ j → o2.getD j 0 = o.getD j 0)
    (hv2 : Go.Proofs.YtmfkpmepgbjmkaaGreatDoor.val o2 + B9 ^ (i + (n + 1)) * c = Go.Proofs.YtmfkpmepgbjmkaaGreatDoor.val o + B9 ^ i * Go.Proofs.YtmfkpmepgbjmkaaGreatDoor.val b) (hc0 : 0 ≤ c) (hc1 : c ≤ 1)
    (hex : g * (B9 ^ i * Go.Proofs.YtmfkpmepgbjmkaaGreatDoor.val b) < Go.Proofs.YtmfkpmepgbjmkaaGreatDoor.val a + B9 ^ i * Go.Proofs.YtmfkpmepgbjmkaaGreatDoor.val b) : Dv la m i V0 b o2 (out.set i (g - 1)) ∧ 0 < g := by
  have hz := h.far hb hl
  have hW : Go.Proofs.YtmfkpmepgbjmkaaGreatDoor.val o < B9 ^ (i + n + 1) := lt_of_far ho (fun j hj => by rw [hfar j hj]; exact hz j hj)
  have hW2 : Go.Proofs.YtmfkpmepgbjmkaaGreatDoor.val o2 < B9 ^ (i + n + 1) := lt_of_far ho2 (fun j hj => by rw [hfar2 j hj, hfar j hj]; exact hz j hj)
  rw [show i + (n + 1) = i + n + 1 by omega] at hv hv2
  have ha := val_nonneg h.da
  have hvb := val_nonneg hb
  have hpi := pow_pos9 i
  have ho0 := val_nonneg ho2
  have e1 : B9 ^ i * (g * Go.Proofs.YtmfkpmepgbjmkaaGreatDoor.val b) = g * (B9 ^ i * Go.Proofs.YtmfkpmepgbjmkaaGreatDoor.val b) := by grind
  rw [e1] at hv
  have hg : 0 < g := by
    rcases Int.lt_or_le 0 g with h' | h'
    · exact h'
    · exfalso
      have : g * (B9 ^ i * Go.Proofs.YtmfkpmepgbjmkaaGreatDoor.val b) ≤ 0 * (B9 ^ i * Go.Proofs.YtmfkpmepgbjmkaaGreatDoor.val b) := Int.mul_le_mul_of_nonneg_right h' (Int.mul_nonneg (Int.le_of_lt hpi) hvb)
      omega
  have hc : c = 1 := by
    rcases Int.lt_or_le c 1 with h' | h'
    · exfalso
      have : c = 0 := by omega
      subst this
      rw [Int.mul_zero] at hv2
      omega
    · omega
  subst hc
  rw [Int.mul_one] at hv2
  have e2 : Go.Proofs.YtmfkpmepgbjmkaaGreatDoor.val o2 + (g * (B9 ^ i * Go.Proofs.YtmfkpmepgbjmkaaGreatDoor.val b) - B9 ^ i * Go.Proofs.YtmfkpmepgbjmkaaGreatDoor.val b) = Go.Proofs.YtmfkpmepgbjmkaaGreatDoor.val a := by omega
  refine ⟨⟨hlen2.trans (hlen.trans h.alen), by rw [List.length_set]; exact h.olen, ho2, h.do_.set _ (by omega) (by omega), fun j hj => by rw [getD_set_ne _ (by omega)]; exact h.low j (by omega), ?_, by omega⟩, hg⟩
  rw [val_set out i (by rw [h.olen]; exact hi), h.low i (by omega), Int.sub_zero, h.val, ← e2]
  grind
theorem Dv.start {n m : Nat} {b a : List Int} (hn : 1 ≤ n) (hb : Dig b) (hl : b.length = n) (ht : Top b) (ha : Dig a) (hal : a.length = m + n) (hz : a.getD (m + n - 1) 0 = 0) : Dv (m + n) m m (Go.Proofs.YtmfkpmepgbjmkaaGreatDoor.val a) b a (List.replicate m 0) := by
  refine ⟨hal, by simp, ha, Dig.zeros _, fun j _ => by rw [List.getD_eq_getElem?_getD, List.getElem?_replicate]; split <;> rfl, by rw [val_zeros]; simp, ?_⟩
  have h1 : Go.Proofs.YtmfkpmepgbjmkaaGreatDoor.val a < B9 ^ (m + n - 1) := lt_of_far ha (fun j hj => by
    rcases Nat.lt_or_ge j (m + n) with h | h
    · rw [show j = m + n - 1 by omega]; exact hz
    · rw [List.getD_eq_getElem?_getD, List.getElem?_eq_none (by omega)]; rfl)
  have h2 : B9 ^ (n - 1) ≤ Go.Proofs.YtmfkpmepgbjmkaaGreatDoor.val b := by
    rcases ht with h | h
    · rw [h] at hl; simp at hl; omega
    · have := val_top hb h (by omega)
      rw [hl] at this
      exact this
  have h3 : B9 ^ m * B9 ^ (n - 1) ≤ B9 ^ m * Go.Proofs.YtmfkpmepgbjmkaaGreatDoor.val b := Int.mul_le_mul_of_nonneg_left h2 (Int.le_of_lt (pow_pos9 m))
  rw [← Int.pow_add, show m + (n - 1) = m + n - 1 by omega] at h3
  omega
end Go.Proofs.YtmfkpmepgbjmkaaGreatDoor

namespace Go.Proofs.YtmfkpmepgbjmkaaGreatDoor
open Go.RowKit

theorem rd_one (w : World) (x : Int) : Rd .u64 (w.alloc (.cells #[.int .u64 x] 166)) (some ⟨w.heap.size, 0, none⟩) 1 [x] :=
  ⟨rfl, fun i hi => ⟨_, rfl, by
    obtain rfl : i = 0 := by omega
    have := cell_one_new w (.int .u64 x) 166 0 _ rfl
    rw [Lib.add_plain] at this
    exact this⟩⟩
theorem Rd.take {k : IntKind} {w : World} {A : Option Addr} {n t : Nat} {ds : List Int} (h : Rd k w A n ds) (ht : t ≤ n) : Rd k w A t (ds.take t) :=
  ⟨by rw [List.length_take, h.1]; omega, fun i hi => by
    obtain ⟨g, h1, h2⟩ := h.2 i (by omega)
    refine ⟨g, h1, ?_⟩
    rw [h2, List.getD_eq_getElem?_getD, List.getD_eq_getElem?_getD, List.getElem?_take_of_lt hi]⟩

def ScaledPost (N : Int) (p : List Int) (w : World) (e : Ending) (w' : World) : Prop :=
  ∃ v ds, e = .returned v ∧ Pc w.heap.size w' v ds ∧ val ds = val p * N ∧ ds.length ≤ p.length + 1 ∧ Below w.heap.size w w'

set_option maxRecDepth 100000 in
set_option maxHeartbeats 1600000 in
theorem scaled_any (A : Option Addr) (n c : Nat) (N : Int) (ds : List Int) (w : World) (hr : Rd .u64 w A n ds) (hn : n ≤ 1000000000000) (hd : Dig ds) (n0 : 0 ≤ N) (n1 : N < 1000000000) :
    Calls Tryz.prog 157 #[.slice A n c, .int .u64 N] w (ScaledPost N ds w) := by
  have H1 := Lib.hid hr
  have HD := Lib.hid hd
  have L1 := Lib.hid hr.1
  clear hr hd
  have hb1 := Lib.hid (nb_alloc w (.cells #[.int .u64 N] 166))
  have hr1 := Lib.hid (rd_one w N)
  go_enter Tryz.func157, Tryz.ntmps157
  go_wp2_with (first
    | (go_at_call 138; refine (trim_any _ 1 1 [N] _ hr1.out (Nat.le_refl _) (by omega)).mono ?_; rintro e w1 ⟨t, ht, rfl, rfl⟩; have HT := Lib.hid ht; clear ht)
    | (go_at_call 141; refine (times_any A _ n t c 1 ds ([N].take t) _ (H1.out.nb hb1.out) (hr1.out.take HT.out.1) hn (by have := HT.out.1; simp at this; omega) HD.out (Dig.take (fun d hd => by rw [List.mem_singleton.1 hd]; omega) t)).mono ?_; rintro e w2 ⟨v, o, rfl, hp, hv, hl, hb⟩; have HP := Lib.hid hp; have HV := Lib.hid hv; have HLN := Lib.hid hl; clear hp hv hl))
  go_ret
  obtain ⟨q1, q2, q3⟩ := trims_parts HT.out
  refine ⟨v, o, rfl, ⟨?_, HP.out.dig, HP.out.top⟩, ?_, ?_, nb_trans hb1.out hb⟩
  · have := HP.out.own
    refine ⟨this.1, this.2.imp id ?_⟩
    rintro ⟨g, cap, cur, h1, h2, h3⟩
    exact ⟨g, cap, cur, h1, Nat.le_trans hb1.out.size h2, h3⟩
  · rw [HV.out, q2]
    simp [Go.Proofs.YtmfkpmepgbjmkaaGreatDoor.val]
  · have := HLN.out
    rw [q3] at this
    have := HT.out.1
    simp at this
    omega
theorem top_len {a b : List Int} (ha : Dig a) (hb : Dig b) (tb : Top b) (h : val b ≤ val a) : b.length ≤ a.length := by
  rcases Nat.lt_or_ge a.length b.length with h' | h'
  · have := val_longer ha hb tb h'
    omega
  · exact h'
theorem le_mul_pos {a f : Int} (ha : 0 ≤ a) (hf : 0 < f) : a ≤ a * f := by
  have := Int.mul_le_mul_of_nonneg_left (show 1 ≤ f by omega) ha
  omega
/-- The two rows that the division works on. -/
structure DvStart (B : Nat) (w2 w3 : World) (v2 v3 : Value) (la nb : Nat) (ga ca : Nat) (A3 : Option Addr) (c3 : Nat) (a b : List Int) : Prop where
  ea : v2 = .slice (some ⟨ga, 0, none⟩) la ca
  eb : v3 = .slice A3 nb c3
  la1 : la ≤ ca
  la2 : ca ≤ maxLen
  ga0 : B ≤ ga
  ob : OB w3 ga ca a
  al : a.length = la
  rd : Rd .u64 w3 A3 nb b
  ne : ∀ g', A3 = some ⟨g', 0, none⟩ → g' ≠ ga
  dig : Dig a
  va : ∀ j, la ≤ j + 1 → a.getD j 0 = 0
theorem dv_start {B : Nat} {w2 w3 : World} {v2 v3 : Value} {a1 b : List Int} (h1 : w2.ownsRow B 166 1 v2 (a1.length + 1) (U a1 ++ [Value.int .u64 0])) (hd : Dig a1) (hb : Below w2.heap.size w2 w3)
    (h3 : Pc w2.heap.size w3 v3 b) : ∃ ga ca A3 c3, DvStart B w2 w3 v2 v3 (a1.length + 1) b.length ga ca A3 c3 (a1 ++ [0]) b := by
  have h1' : w2.ownsRow B 166 1 v2 (a1.length + 1) (U (a1 ++ [0])) := by simpa [U] using h1
  obtain ⟨ga, ca, hv, q1, q2, q3, q4⟩ := own_OB h1' (by omega)
  obtain ⟨A3, c3, hv3, r1, r2, r3⟩ := own_rd h3.own
  refine ⟨ga, ca, A3, c3, hv, hv3, q1, q2, q3, q4.of_block (hb.block ga q4.lt), by simp, r3, ?_, hd.append (fun d hd => by rw [List.mem_singleton.1 hd]; decide), ?_⟩
  · intro g' hg'
    subst hg'
    have h4 := h3.own.2
    rw [hv3] at h4
    rcases h4 with ⟨h5, _⟩ | ⟨g, cap, cur, h5, h6, _⟩
    · cases h5
    · injection h5 with e1 e2 e3
      injection e1 with e1
      injection e1 with e1
      have := q4.lt
      omega
  · intro j hj
    rw [List.getD_eq_getElem?_getD, List.getElem?_append_right (by omega)]
    rcases Nat.eq_zero_or_pos (j - a1.length) with h | h
    · rw [h]; rfl
    · rw [List.getElem?_eq_none (by simp; omega)]; rfl
theorem Rd.kp {k : IntKind} {w w1 : World} {A : Option Addr} {n : Nat} {ds : List Int} {S : Nat → Prop} (h : Rd k w A n ds) (hk : Kp S w w1) (hA : ∀ g', A = some ⟨g', 0, none⟩ → g' < w.heap.size → ¬ S g') : Rd k w1 A n ds :=
  ⟨h.1, fun i hi => by
    obtain ⟨g', h1, h2⟩ := h.2 i hi
    exact ⟨g', h1, hk.cell h2 (hA g' h1 (World.block_lt_of_cell? w _ h2))⟩⟩
/-- The memory of a division under way. -/
structure DM (w3 w : World) (ga ca : Nat) (a out : List Int) : Prop where
  ob : OB w ga ca a
  ub : UB w w3.heap.size out
  kp : Kp (fun x => x = ga ∨ w3.heap.size ≤ x) w3 w
section
variable {w3 w w1 : World} {ga ca : Nat} {a o out : List Int}
theorem DM.nb (h : DM w3 w ga ca a out) (hb : Below w.heap.size w w1) : DM w3 w1 ga ca a out :=
  ⟨h.ob.of_block (hb.block _ h.ob.lt), h.ub.of_block (hb.block _ h.ub.lt), h.kp.nb hb⟩
theorem DM.step (h : DM w3 w ga ca a out) (hg : ga < w3.heap.size) (ho : OB w1 ga ca o) (hk : Kp (· = ga) w w1) : DM w3 w1 ga ca o out :=
  ⟨ho, h.ub.of_block (hk.block _ h.ub.lt (fun e => by omega)), h.kp.trans (hk.mono (fun i hi => .inl hi))⟩
theorem DM.put (h : DM w3 w ga ca a out) (hg : ga < w3.heap.size) (i : Nat) (x : Int) : DM w3 (w.setCell ⟨w3.heap.size, i, none⟩ (.int .u64 x)) ga ca a (out.set i x) :=
  ⟨h.ob.of_block (Below.heap_setCell w _ _ ga (fun e => by simp at e; omega)), h.ub.set i x, h.kp.set (p := ⟨w3.heap.size, i, none⟩) (.inr (Nat.le_refl _)) _⟩
end
theorem rest_le {g b1 r high : Int} (h : g * b1 + r = high) (g0 : 0 ≤ g) (hb : 0 ≤ b1) : r ≤ high := by
  have := Int.mul_nonneg g0 hb
  omega
theorem guess_pos {V g b : Int} (hV : 0 ≤ V) (hb : 0 ≤ b) (h : V < g * b) : 0 < g := by
  rcases Int.lt_or_le 0 g with h' | h'
  · exact h'
  · have := Int.mul_le_mul_of_nonneg_right h' hb
    omega
theorem guess_dec {g b1 r high : Int} (h : g * b1 + r = high) : (g - 1) * b1 + (r + b1) = high := by
  have : (g - 1) * b1 = g * b1 - b1 := by grind
  rw [this]
  omega
theorem guess_lt {V g b : Int} (h : V < g * b) : V < (g - 1 + 1) * b := by rw [show g - 1 + 1 = g by omega]; exact h
theorem dv_top {la m j : Nat} {V0 : Int} {b a out : List Int} (h : Dv la m (j + 1) V0 b a out) : val a < B9 ^ j * val b * 1000000000 := by
  have := h.lt
  rw [Int.pow_succ] at this
  have e : B9 ^ j * val b * 1000000000 = B9 ^ j * 1000000000 * val b := by grind
  rw [e]
  exact this
/-- What the loop of guesses leaves. -/
structure Gs (j : Nat) (b a : List Int) (g : Int) : Prop where
  g0 : 0 ≤ g
  g1 : g < 1000000000
  lt : val a < (g + 1) * (B9 ^ j * val b)
  ex : g * (B9 ^ j * val b) < val a + B9 ^ j * val b
theorem div_fin {p q f Q V d r : Int} (h : p * f = (q * f) * Q + V) (hV : V = f * d + r) (r0 : 0 ≤ r) (r1 : r < f) (hlt : V < q * f) : p = q * Q + d ∧ d < q := by
  have f0 : 0 < f := by omega
  have e : f * (p - q * Q - d) = r := by
    have : f * (p - q * Q - d) = p * f - (q * f) * Q - f * d := by grind
    rw [this]
    omega
  have z : p - q * Q - d = 0 := by
    rcases Int.lt_trichotomy (p - q * Q - d) 0 with h' | h' | h'
    · have := Int.mul_le_mul_of_nonneg_left (show p - q * Q - d ≤ -1 by omega) (Int.le_of_lt f0)
      omega
    · exact h'
    · have := Int.mul_le_mul_of_nonneg_left (show 1 ≤ p - q * Q - d by omega) (Int.le_of_lt f0)
      omega
  refine ⟨by omega, ?_⟩
  rcases Int.lt_or_le d q with h' | h'
  · exact h'
  · have := Int.mul_le_mul_of_nonneg_left h' (Int.le_of_lt f0)
    have e2 : f * q = q * f := Int.mul_comm _ _
    omega
theorem Pc.base {b0 b1 : Nat} {w : World} {v : Value} {ds : List Int} (h : Pc b1 w v ds) (hb : b0 ≤ b1) : Pc b0 w v ds :=
  ⟨⟨h.own.1, h.own.2.imp id (fun ⟨g, cap, cur, h1, h2, h3⟩ => ⟨g, cap, cur, h1, Nat.le_trans hb h2, h3⟩)⟩, h.dig, h.top⟩
theorem Pc.nb {b0 : Nat} {w w1 : World} {v : Value} {ds : List Int} (h : Pc b0 w v ds) (hb : Below w.heap.size w w1) : Pc b0 w1 v ds :=
  ⟨own_nb h.own hb, h.dig, h.top⟩
theorem OB.rd {w : World} {g cap n : Nat} {ds : List Int} (h : OB w g cap ds) (hl : ds.length = n) : Rd .u64 w (some ⟨g, 0, none⟩) n ds :=
  ⟨hl, fun i hi => ⟨g, rfl, h.cell (by omega)⟩⟩
theorem UB.rd {w : World} {g n : Nat} {ds : List Int} (h : UB w g ds) (hl : ds.length = n) : Rd .u64 w (some ⟨g, 0, none⟩) n ds :=
  ⟨hl, fun i hi => ⟨g, rfl, h.cell (by omega)⟩⟩
def DivPost (p q : List Int) (w : World) (e : Ending) (w' : World) : Prop :=
  ∃ v1 v2 d r, e = .returned (.tuple #[v1, v2]) ∧ Pc w.heap.size w' v1 d ∧ Pc w.heap.size w' v2 r ∧ val p = val q * val d + val r ∧ val r < val q ∧ d.length ≤ p.length + 2 ∧ r.length ≤ p.length + 2 ∧ Below w.heap.size w w'

set_option maxRecDepth 100000 in
set_option maxHeartbeats 8000000 in
theorem divide_any (A A' : Option Addr) (n c m c' : Nat) (ds es : List Int) (w : World) (hr : Rd .u64 w A n ds) (hs : Rd .u64 w A' m es) (hn : n ≤ 100000000000) (hm : 2 ≤ m) (hmn : m ≤ n)
    (hd : Dig ds) (he : Dig es) (ht : Top ds) (hte : Top es) :
    Calls Tryz.prog 136 #[.slice A n c, .slice A' m c'] w (DivPost ds es w) := by
  obtain ⟨i0, hi0, hz0, hz1, hz2⟩ := info_parts Tryz.infoU
  have H1 := Lib.hid hr
  have H2 := Lib.hid hs
  have HD := Lib.hid hd
  have HE := Lib.hid he
  have HT := Lib.hid (And.intro ht hte)
  have L1 := Lib.hid hr.1
  have L2 := Lib.hid hs.1
  obtain ⟨g2, hA2, c1⟩ := hs.at_ (i := m - 1) (by omega)
  obtain ⟨y, hy⟩ : ∃ y, y = es.getD (m - 1) 0 := ⟨_, rfl⟩
  rw [← hy] at c1
  obtain ⟨y0, y1⟩ : 0 ≤ y ∧ y < 1000000000 := by rw [hy]; exact he.at_ _
  have y2 : y ≠ 0 := by
    rcases hte with h | h
    · have := hs.1; rw [h] at this; simp at this; omega
    · rw [hs.1] at h
      rw [hy]
      exact h
  clear hr hs hd he ht hte hy
  subst hA2
  obtain ⟨f, hf⟩ : ∃ f, f = 1000000000 / (y + 1) := ⟨_, rfl⟩
  have f0 : 0 < f := by
    rw [hf]
    have h1 := Int.mul_ediv_add_emod 1000000000 (y + 1)
    have h2 := Int.emod_lt_of_pos 1000000000 (show 0 < y + 1 by omega)
    rcases Int.lt_or_le 0 (1000000000 / (y + 1)) with h | h
    · exact h
    · exfalso
      have h3 : (y + 1) * (1000000000 / (y + 1)) ≤ (y + 1) * 0 := Int.mul_le_mul_of_nonneg_left h (by omega)
      omega
  have f1 : f < 1000000000 := by
    rw [hf]
    apply Int.ediv_lt_of_lt_mul (by omega)
    omega
  go_enter Tryz.func136, Tryz.ntmps136
  have HF := Lib.hid hf
  go_wp2_with fail
  rw [← HF.out]
  clear hf
  go_wp2_with (first
    | (go_at_call 157; refine (scaled_any A n c f ds w H1.out (by omega) HD.out (by omega) f1).mono ?_; rintro e w1 ⟨v1, a1, rfl, hp, hv, hl, hb⟩; have HP1 := Lib.hid hp; have HV1 := Lib.hid hv; have HL1 := Lib.hid hl; have HB1 := Lib.hid hb; have how := hp.own.alloc (.cells #[.int .u64 0] 166); have HOW := Lib.hid how; clear hp hv hl hb how)
    | (at_builtin; refine wpList_append_own _ rfl _ _ 171 rfl w.heap.size 166 i0 (.int .u64 0) 1 8 Tryz.underlying171 hi0 hz0 hz1 hz2 rfl (by decide) _ _ _ rfl HOW.out ⟨w1.heap.size, 0, none⟩ 1 1 [.int .u64 0] rfl rfl (cell_one_new _ _ _) (by intro u hu; simp at hu; subst hu; rfl) (by have := HL1.out; have := L1.out; unfold maxLen; omega) (by have := HL1.out; have := L1.out; omega) (by have := HB1.out.size; simp; omega) ?_; intro v2 w2 hown2 hgrow2 hnil2; have HO2 := Lib.hid hown2; have HG2 := Lib.hid (nb_grown (HB1.out.trans (nb_alloc _ _ |>.mono HB1.out.size)) HOW.out (Nat.le_refl _) hgrow2); clear hown2 hgrow2 hnil2)
    | (go_at_call 157; refine (scaled_any (some ⟨g2, 0, none⟩) m c' f es w2 (H2.out.nb HG2.out) (by omega) HE.out (by omega) f1).mono ?_; rintro e w3 ⟨v3, b, rfl, hp, hv, hl, hb⟩; have HP3 := Lib.hid hp; have HV3 := Lib.hid hv; have HL3 := Lib.hid hl; have HB3 := Lib.hid hb; clear hp hv hl hb
       obtain ⟨ga, ca, A3, c3, hst⟩ := dv_start HO2.out HP1.out.dig HB3.out HP3.out
       have la0 : n + 1 ≤ a1.length + 1 := by
         have := top_len HP1.out.dig HD.out HT.out.1 (by rw [HV1.out]; exact le_mul_pos (val_nonneg HD.out) f0)
         rw [L1.out] at this
         omega
       have la1 : a1.length + 1 ≤ n + 2 := by have := HL1.out; have := L1.out; omega
       have nb0 : m ≤ b.length := by
         have := top_len HP3.out.dig HE.out HT.out.2 (by rw [HV3.out]; exact le_mul_pos (val_nonneg HE.out) f0)
         rw [L2.out] at this
         exact this
       have nb1 : b.length ≤ m + 1 := by have := HL3.out; have := L2.out; omega
       have hva : val (a1 ++ [0]) = val ds * f := by rw [val_snoc, Int.mul_zero, Int.add_zero, HV1.out]
       have hea := hst.ea
       have heb := hst.eb
       subst hea heb
       obtain ⟨la, hla⟩ : ∃ la, la = a1.length + 1 := ⟨_, rfl⟩
       obtain ⟨nb, hnb⟩ : ∃ nb, nb = b.length := ⟨_, rfl⟩
       obtain ⟨a0, ha0⟩ : ∃ a0, a0 = a1 ++ [0] := ⟨_, rfl⟩
       rw [← hla, ← hnb, ← ha0] at hst
       rw [← hla] at la0 la1
       rw [← hnb] at nb0 nb1
       rw [← ha0] at hva
       have HVA := Lib.hid hva
       have HST := Lib.hid hst
       have HNB := Lib.hid hnb
       have HB : Hid (Below w.heap.size w w3) := HG2.out.trans (HB3.out.mono HG2.out.size)
       rw [← hla]
       clear hst hva hla hnb ha0 HOW HO2 HP1 HV1 HL1 HB1 HL3))
  rw [← HNB.out]
  have ga1 : ga < w3.heap.size := HST.out.ob.lt
  go_loopw [7] (fun s wr => s = .slice (some ⟨ga, 0, none⟩) la ca ∧ wr = w3) (fun _ _ => 0)
  case atStart => exact ⟨rfl, rfl⟩
  case round =>
    obtain ⟨rfl, hw⟩ := hrel
    have hw' := hw.symm
    clear hw
    subst hw'
    obtain ⟨mm, hlam⟩ : ∃ mm : Nat, la = mm + nb := ⟨la - nb, by omega⟩
    subst hlam
    have hmk := fun W => run_make_row' (P := Tryz.prog) 171 166 (.int .u64 0) 8 Tryz.underlying171 Tryz.infoU rfl .i64 .i64 mm (by omega) (by omega) W
    have hnot : ¬ (mm : Int) + (nb : Int) ≤ (n : Int) := by omega
    have hdv0 : Hid (Dv (mm + nb) mm mm (val a0) b a0 (List.replicate mm 0)) := by
      have := Dv.start (n := nb) (m := mm) (by omega) HP3.out.dig HNB.out.symm HP3.out.top HST.out.dig HST.out.al (HST.out.va _ (by omega))
      exact this
    have hdm0 : Hid (DM w3 (w3.alloc (.cells (madeCells #[Value.int .u64 0] mm) 166)) ga ca a0 (List.replicate mm 0)) :=
      ⟨HST.out.ob.of_block ((nb_alloc w3 _).block _ ga1), UB.made w3 mm, Kp.of_below (nb_alloc _ _)⟩
    go_wp2_with fail
    go_loopw [11] (fun si wr => ∃ (i : Int) (a out : List Int), -1 ≤ i ∧ i < (mm : Int) ∧ si = .int .i64 i ∧ DM w3 wr ga ca a out ∧ Hid (Dv (mm + nb) mm (i + 1).toNat (val a0) b a out)) (fun si _ => (intOf si + 1).toNat)
    case atStart =>
      refine ⟨(mm : Int) - 1, a0, _, by omega, by omega, by go_num, hdm0.out, ?_⟩
      rw [show ((mm : Int) - 1 + 1).toNat = mm by omega]
      exact hdv0
    case round =>
      obtain ⟨i, a, out, hi0, hi1, rfl, hdm, hdv⟩ := hrel
      by_cases hi : 0 ≤ i
      · obtain ⟨j, rfl⟩ : ∃ j : Nat, i = (j : Int) := ⟨i.toNat, by omega⟩
        have hal := hdv.out.alen
        have ej : ((j : Int) + 1).toNat = j + 1 := by omega
        rw [ej] at hdv
        have rdb : Rd .u64 wr A3 nb b := HST.out.rd.kp hdm.kp (fun g' h1 h2 h3 => by
          have := HST.out.ne g' h1
          rcases h3 with h3 | h3 <;> omega)
        obtain ⟨gb, hgb, cb1⟩ := rdb.at_ (i := nb - 1) (by omega)
        obtain ⟨gb', hgb', cb2⟩ := rdb.at_ (i := nb - 2) (by omega)
        obtain rfl : gb' = gb := by
          rw [hgb] at hgb'
          injection hgb' with h
          injection h with h
          exact h.symm
        subst hgb
        clear hgb'
        have ca0 := hdm.ob.cell (i := j + nb) (by omega)
        have ca1 := hdm.ob.cell (i := j + nb - 1) (by omega)
        have ca2 := hdm.ob.cell (i := j + nb - 2) (by omega)
        have hfar := hdv.out.far HP3.out.dig HNB.out.symm
        obtain ⟨hA, lo0, lo1⟩ := head_a (i := j) (n := nb) hdv.out.da (by omega) hfar
        obtain ⟨hB, bl0, bl1⟩ := head_b (i := j) (n := nb) HP3.out.dig HNB.out.symm (by omega)
        obtain ⟨x00, x01⟩ := hdv.out.da.at_ (j + nb)
        obtain ⟨x10, x11⟩ := hdv.out.da.at_ (j + nb - 1)
        obtain ⟨x20, x21⟩ := hdv.out.da.at_ (j + nb - 2)
        obtain ⟨b10, b11⟩ := HP3.out.dig.at_ (nb - 1)
        obtain ⟨b20, b21⟩ := HP3.out.dig.at_ (nb - 2)
        have b1n : b.getD (nb - 1) 0 ≠ 0 := by
          rcases HP3.out.top with h | h
          · have := HNB.out; rw [h] at this; simp at this; omega
          · rw [← HNB.out] at h; exact h
        obtain ⟨x0, hx0⟩ : ∃ x, x = a.getD (j + nb) 0 := ⟨_, rfl⟩
        obtain ⟨x1, hx1⟩ : ∃ x, x = a.getD (j + nb - 1) 0 := ⟨_, rfl⟩
        obtain ⟨x2, hx2⟩ : ∃ x, x = a.getD (j + nb - 2) 0 := ⟨_, rfl⟩
        obtain ⟨b1, hb1⟩ : ∃ x, x = b.getD (nb - 1) 0 := ⟨_, rfl⟩
        obtain ⟨b2, hb2⟩ : ∃ x, x = b.getD (nb - 2) 0 := ⟨_, rfl⟩
        rw [← hx0] at ca0 hA x00 x01
        rw [← hx1] at ca1 hA x10 x11
        rw [← hx2] at ca2 hA x20 x21
        rw [← hb1] at cb1 hB b10 b11 b1n
        rw [← hb2] at cb2 hB b20 b21
        have HA := Lib.hid (And.intro hA (And.intro lo0 lo1))
        have HB2 := Lib.hid (And.intro hB (And.intro bl0 bl1))
        have HAL := Lib.hid hal
        have hLp := Lib.hid (pow_pos9 (j + nb - 2))
        have hb1p : 0 < b1 := by omega
        have HX2 := Lib.hid hx2
        have HBB := Lib.hid (And.intro hb1 hb2)
        clear hx0 hx1 hx2 hb1 hb2 hA lo0 lo1 hB bl0 bl1 hfar rdb hal ej b1n
        obtain ⟨high, hhigh⟩ : ∃ high, high = x0 * 1000000000 + x1 := ⟨_, rfl⟩
        have hh0 : 0 ≤ high := by omega
        have hh1 : high < 1000000000000000000 := by omega
        have g00 : 0 ≤ high / b1 := Int.ediv_nonneg hh0 (Int.le_of_lt hb1p)
        have r00 : 0 ≤ high % b1 := Int.emod_nonneg _ (by omega)
        have r01 : high % b1 < b1 := Int.emod_lt_of_pos _ hb1p
        have g01 : high / b1 ≤ high := Int.ediv_le_self _ hh0
        have HH := Lib.hid hhigh
        have hdm1 := Lib.hid hdm
        clear hdm
        go_wp2_with fail
        go_quiet (fail)
        rw [← hhigh]
        clear hhigh
        go_wp2_with fail
        go_quiet (fail)
        have hvb0 := Lib.hid (Int.mul_nonneg (Int.le_of_lt (pow_pos9 j)) (val_nonneg HP3.out.dig))
        have hva0 := Lib.hid (val_nonneg hdv.out.da)
        have hvtop := Lib.hid (dv_top hdv.out)
        obtain ⟨gs, hgs⟩ : ∃ gs, gs = high / b1 := ⟨_, rfl⟩
        obtain ⟨rs, hrs⟩ : ∃ rs, rs = high % b1 := ⟨_, rfl⟩
        have hdiv : Hid (gs * b1 + rs = high) := by
          rw [hgs, hrs]
          have := Int.mul_ediv_add_emod high b1
          rw [Int.mul_comm] at this
          exact this
        have hgst : Hid (val a < (gs + 1) * (B9 ^ j * val b)) := by
          rw [hgs]
          exact guess_start hLp.out (by rw [HA.out.1, ← HH.out]) HA.out.2.2 HB2.out.1 HB2.out.2.1 b20 x21 hb1p hh0
        rw [← hgs, ← hrs]
        rw [← hgs] at g00 g01
        rw [← hrs] at r00 r01
        clear hgs hrs
        go_upto_block 4 with fail
        go_cut [13] (fun sg wx => ∃ g : Int, sg = .int .u64 g ∧ 0 ≤ g ∧ g < 1000000000 ∧ Hid (Gs j b a g) ∧ Hid (DM w3 wx ga ca a out))
        case first =>
          go_wp2_with fail
          go_loopw [13, 14] (fun sg sr wq => ∃ g rest : Int, sg = .int .u64 g ∧ sr = .int .u64 rest ∧ 0 ≤ g ∧ 0 ≤ rest ∧ g ≤ high ∧ rest ≤ high ∧ Hid (g * b1 + rest = high) ∧ Hid (val a < (g + 1) * (B9 ^ j * val b)) ∧ Hid (DM w3 wq ga ca a out)) (fun sg _ _ => (intOf sg).toNat)
          case atStart => exact ⟨gs, rs, rfl, rfl, g00, r00, g01, rest_le hdiv.out g00 (by omega), hdiv, hgst, (by first | exact hdm1.out.nb (nb_drewN _ _) | exact (hdm1.out.nb (nb_drewN _ _)).nb (nb_drewN _ _))⟩
          case round =>
            obtain ⟨g, rest, rfl, rfl, g0, rest0, g1, rest1, heq, hlt, hdmq⟩ := hrel
            have rdb : Rd .u64 wr (some ⟨gb', 0, none⟩) nb b := HST.out.rd.kp hdmq.out.kp (fun g' h1 h2 h3 => by
              have := HST.out.ne g' h1
              rcases h3 with h3 | h3 <;> omega)
            obtain ⟨gq, hgq, cb1'⟩ := rdb.at_ (i := nb - 1) (by omega)
            obtain ⟨gq', hgq', cb2'⟩ := rdb.at_ (i := nb - 2) (by omega)
            injection hgq with e1
            injection e1 with e1
            injection hgq' with e2
            injection e2 with e2
            subst e1 e2
            have ca2' := hdmq.out.ob.cell (i := j + nb - 2) (by rw [HAL.out]; omega)
            rw [← HX2.out] at ca2'
            rw [← HBB.out.1] at cb1'
            rw [← HBB.out.2] at cb2'
            clear rdb
            by_cases hg9 : 1000000000 ≤ g
            · have hg9' : decide (1000000000 ≤ g) = true := decide_eq_true hg9
              have hdn : Hid (val a < g * (B9 ^ j * val b)) := guess_down1 hvtop.out hvb0.out hg9
              have hpos : 0 < g := guess_pos hva0.out hvb0.out hdn.out
              have heq2 : Hid ((g - 1) * b1 + (rest + b1) = high) := guess_dec heq.out
              have hlt2 : Hid (val a < (g - 1 + 1) * (B9 ^ j * val b)) := guess_lt hdn.out
              have hrest2 : rest + b1 ≤ high := rest_le heq2.out (by omega) (by omega)
              go_wp2_with fail
              go_quiet (fail)
              go_wp2_with fail
              go_roundw
              case rel => exact ⟨g - 1, rest + b1, rfl, rfl, by omega, by omega, by omega, hrest2, heq2, hlt2, (by first | exact hdmq.out.nb (nb_drewN _ _) | exact (hdmq.out.nb (nb_drewN _ _)).nb (nb_drewN _ _))⟩
              case measure => (simp [intOf]) <;> omega
            · have hg9' : decide (1000000000 ≤ g) = false := decide_eq_false hg9
              by_cases hr9 : rest < 1000000000
              · have hr9' : decide (rest < 1000000000) = true := decide_eq_true hr9
                obtain ⟨q0, q1⟩ := mul_range g0 (by omega) b20 b21
                by_cases hbig : rest * 1000000000 + x2 < g * b2
                · have hbig' : decide (rest * 1000000000 + x2 < g * b2) = true := decide_eq_true hbig
                  have hdn : Hid (val a < g * (B9 ^ j * val b)) := guess_down2 hLp.out (by rw [HA.out.1, ← HH.out]) HA.out.2.2 HB2.out.1 HB2.out.2.1 g0 heq.out hbig
                  have hpos : 0 < g := guess_pos hva0.out hvb0.out hdn.out
                  have heq2 : Hid ((g - 1) * b1 + (rest + b1) = high) := guess_dec heq.out
                  have hlt2 : Hid (val a < (g - 1 + 1) * (B9 ^ j * val b)) := guess_lt hdn.out
                  have hrest2 : rest + b1 ≤ high := rest_le heq2.out (by omega) (by omega)
                  go_wp2_with fail
                  go_quiet (fail)
                  go_wp2_with fail
                  go_roundw
                  case rel => exact ⟨g - 1, rest + b1, rfl, rfl, by omega, by omega, by omega, hrest2, heq2, hlt2, (by first | exact hdmq.out.nb (nb_drewN _ _) | exact (hdmq.out.nb (nb_drewN _ _)).nb (nb_drewN _ _))⟩
                  case measure => (simp [intOf]) <;> omega
                · have hbig' : decide (rest * 1000000000 + x2 < g * b2) = false := decide_eq_false hbig
                  have hex : Hid (g * (B9 ^ j * val b) < val a + B9 ^ j * val b) := guess_exit hLp.out (by rw [HA.out.1, ← HH.out]) HA.out.2.1 HB2.out.1 HB2.out.2.1 HB2.out.2.2 hb1p b20 b21 x20 g0 (by omega) heq.out (.inr (by omega))
                  go_wp2_with fail
                  go_quiet (fail)
                  go_wp2_with fail
                  go_meet
                  exact ⟨g, rfl, g0, by omega, ⟨g0, by omega, hlt.out, hex.out⟩, (by first | exact hdmq.out.nb (nb_drewN _ _) | exact (hdmq.out.nb (nb_drewN _ _)).nb (nb_drewN _ _))⟩
              · have hr9' : decide (rest < 1000000000) = false := decide_eq_false hr9
                have hex : Hid (g * (B9 ^ j * val b) < val a + B9 ^ j * val b) := guess_exit hLp.out (by rw [HA.out.1, ← HH.out]) HA.out.2.1 HB2.out.1 HB2.out.2.1 HB2.out.2.2 hb1p b20 b21 x20 g0 (by omega) heq.out (.inl (by omega))
                go_wp2_with fail
                go_quiet (fail)
                go_wp2_with fail
                go_meet
                exact ⟨g, rfl, g0, by omega, ⟨g0, by omega, hlt.out, hex.out⟩, (by first | exact hdmq.out.nb (nb_drewN _ _) | exact (hdmq.out.nb (nb_drewN _ _)).nb (nb_drewN _ _))⟩
        case rest =>
          obtain ⟨g, rfl, g0, g1, hgs2, hdmc⟩ := hcut
          have hrb : Hid (Rd .u64 wc (some ⟨gb', 0, none⟩) nb b) := HST.out.rd.kp hdmc.out.kp (fun g' h1 h2 h3 => by
            have := HST.out.ne g' h1
            rcases h3 with h3 | h3 <;> omega)
          have hjm : (j : Int) < (mm : Int) := hi1
          go_wp2_with (first
            | (go_at_call 140; refine (take_any ga (mm + nb) ca nb c3 j (some ⟨gb', 0, none⟩) g a b _ HAL.out hdmc.out.ob hrb.out HST.out.ne (by omega) (by omega) hdv.out.da HP3.out.dig g0 g1).mono ?_; rintro e w4 ⟨bb, o, rfl, hob4, hol4, hdo4, hfar4, hval4, hkp4⟩; have HT4 := Lib.hid (And.intro hdo4 (And.intro hfar4 hval4)); have HOL4 := Lib.hid (hol4.trans HAL.out); have HDM4 := Lib.hid (hdmc.out.step ga1 hob4 hkp4); have c5 := HDM4.out.ub.cell (i := j) (by rw [hdv.out.olen]; omega); have f5 := HDM4.out.ub.frozen j
               have hfin0 : bb = false → Hid (Dv (mm + nb) mm j (val a0) b o (out.set j g)) := (fun h => by
                 subst h
                 refine hdv.out.hit (n := nb) (by omega) g0 g1 hol4 hdo4 ?_ hgs2.out.lt
                 have := hval4
                 simpa using this)
               have hpos : bb = true → 0 < g := (fun h => by
                 subst h
                 refine hdv.out.pos HP3.out.dig HNB.out.symm hdo4 hfar4 ?_
                 simpa using hval4)
               clear hob4 hol4 hdo4 hfar4 hval4
               cases bb <;> (first | (have hp := hpos rfl; clear hpos hfin0) | (have hf := hfin0 rfl; clear hpos hfin0)))
            | (go_at_call 137; refine (back_any ga (mm + nb) ca nb c3 j (some ⟨gb', 0, none⟩) o b _ HOL4.out HDM4.out.ob (hrb.out.blk hkp4 HST.out.ne) HST.out.ne (by omega) (by omega) HT4.out.1 HP3.out.dig).mono ?_
               rintro e w5 ⟨cc, o2, rfl, hob5, hol5, hdo5, hfar5, hval5, hc0, hc1, hkp5⟩
               have hf : Hid (Dv (mm + nb) mm j (val a0) b o2 (out.set j (g - 1))) := (by
                 refine (hdv.out.miss (g := g) (c := cc) (o := o) HP3.out.dig HNB.out.symm (by omega) g1 (HOL4.out.trans HAL.out.symm) HT4.out.1 HT4.out.2.1 (by simpa using HT4.out.2.2) hol5 hdo5 hfar5 hval5 hc0 hc1 hgs2.out.ex).1)
               have HDM5 := Lib.hid (HDM4.out.step ga1 hob5 hkp5)
               have c6 := HDM5.out.ub.cell (i := j) (by rw [hdv.out.olen]; omega)
               have f6 := HDM5.out.ub.frozen j
               clear hob5 hol5 hdo5 hfar5 hval5 hc0 hc1))
          · go_roundw
            case rel =>
              refine ⟨(j : Int) - 1, o, out.set j g, by omega, by omega, rfl, HDM4.out.put ga1 j g, ?_⟩
              rw [show ((j : Int) - 1 + 1).toNat = j by omega]
              exact hf
            case measure => (simp [intOf]) <;> omega
          · go_roundw
            case rel =>
              refine ⟨(j : Int) - 1, o2, out.set j (g - 1), by omega, by omega, rfl, HDM5.out.put ga1 j (g - 1), ?_⟩
              rw [show ((j : Int) - 1 + 1).toNat = j by omega]
              exact hf
            case measure => (simp [intOf]) <;> omega
      · obtain rfl : i = -1 := by omega
        rw [show ((-1 : Int) + 1).toNat = 0 from rfl] at hdv
        have hra : Hid (Rd .u64 wr (some ⟨ga, 0, none⟩) (mm + nb) a) := hdm.ob.rd hdv.out.alen
        have hro : Hid (Rd .u64 wr (some ⟨w3.heap.size, 0, none⟩) mm out) := hdm.ub.rd hdv.out.olen
        have hca : Hid (mm + nb ≤ ca) := HST.out.la1
        go_upto_region 20 with (first
          | (go_at_call 138; refine (trim_any (some ⟨ga, 0, none⟩) (mm + nb) ca a _ hra.out hca.out (by omega)).mono ?_; rintro e w4 ⟨t, ht, rfl, rfl⟩; have HT1 := Lib.hid ht; clear ht)
          | (go_at_call 134; refine (smallDiv_any (some ⟨ga, 0, none⟩) t ca f (a.take t) _ (hra.out.take (by have := HT1.out.1; have := hdv.out.alen; omega)) (by have := HT1.out.1; have := hdv.out.alen; omega) (hdv.out.da.take t) f0 (by omega)).mono ?_; rintro e w5 ⟨v5, d5, r5, rfl, hp5, hv5, hr0, hr1, hl5, hb5⟩; have HS5 := Lib.hid (And.intro hp5 (And.intro hv5 (And.intro hr0 (And.intro hr1 (And.intro hl5 hb5))))); clear hp5 hv5 hr0 hr1 hl5 hb5))
        go_wp2_with ((go_at_call 138; refine (trim_any (some ⟨w3.heap.size, 0, none⟩) mm mm out _ (hro.out.nb HS5.out.2.2.2.2.2) (Nat.le_refl _) (by omega)).mono ?_; rintro e w6 ⟨t2, ht2, rfl, rfl⟩; have HT2 := Lib.hid ht2; clear ht2))
        go_ret2
        obtain ⟨hp5, hv5, hr0, hr1, hl5, hb5⟩ := HS5.out
        obtain ⟨_, q2, q3⟩ := trims_parts HT1.out
        have hb0 : Below w.heap.size w wr := HB.out.trans (hdm.kp.below (B := w.heap.size) HB.out.size (fun i hi => by
          rcases hi with rfl | hi
          · exact HST.out.ga0
          · exact Nat.le_trans HB.out.size hi))
        obtain ⟨u1, u2, u3⟩ := (hdm.nb hb5).ub.trimmed (base := w.heap.size) HB.out.size HT2.out hdv.out.do_ (by rw [hdv.out.olen]; simp only [maxLen]; omega)
        rw [hdv.out.olen] at u1
        have hV := hdv.out.val
        rw [HVA.out, HV3.out] at hV
        have hlt := hdv.out.lt
        rw [Int.pow_zero, Int.one_mul, HV3.out] at hlt
        rw [q2] at hv5
        obtain ⟨z1, z2⟩ := div_fin hV hv5 hr0 hr1 hlt
        refine ⟨_, v5, out.take t2, d5, rfl, u1, hp5.base hb0.size, ?_, z2, ?_, ?_, hb0.trans (hb5.mono hb0.size)⟩
        · rw [u2]; exact z1
        · rw [u3]
          have := HT2.out.1
          have := hdv.out.olen
          have := L1.out
          omega
        · have h7 := HT1.out.1
          have h8 := hdv.out.alen
          have h9 := L1.out
          rw [q3] at hl5
          omega
end Go.Proofs.YtmfkpmepgbjmkaaGreatDoor

namespace Go.Proofs.YtmfkpmepgbjmkaaGreatDoor
open Go.RowKit

theorem zeroCells_one (z : Value) (n : Nat) : (Builtin.zeroCells #[z] n).toList = List.replicate n z := by
  apply List.ext_getElem
  · simp [Builtin.zeroCells]
  · intro i h1 h2
    have h0 : i % 1 = 0 := Nat.mod_one i
    simp [Builtin.zeroCells, h0]
theorem run_append_room_zeros {P : Program} (w : World) (t tn ty e : TypeId) (i : TypeInfo) (z : Value) (kn : IntKind) (ht : P.underlying t = some (.slice e)) (htn : P.underlying tn = some (.int kn)) (hi : P.info? e = some i) (hz : i.zero = some z) (hsize : i.size = 1) (hzc : z.cells = #[z]) (hz1 : z.oneCell' = true)
    (g sLen sCap : Nat) (cur : Array Value) (hg : w.heap[g]? = some (.cells cur e (0, 0))) (m : Nat) (hm : m ≤ 1000000000000) (hby : i.bytes = 8)
    (hroom : sLen + m ≤ sCap) (hfit : sLen + m ≤ cur.size) :
    (Builtin.append_ #[t, tn] ty #[.slice (some ⟨g, 0, none⟩) sLen sCap, .int .i64 m]).run P w =
      .ok (.slice (some ⟨g, 0, none⟩) (sLen + m) sCap) (w.setRow g (cur.toList.take sLen ++ List.replicate m z ++ cur.toList.drop (sLen + m)).toArray) := by
  have hst := run_storeCells_at P g sLen e (List.replicate m z) 0 cur w hg (by simpa using hfit) (fun u hu => by rw [List.eq_of_mem_replicate hu]; exact hz1)
  simp only [Nat.add_zero, List.length_replicate] at hst
  have hw : IntKind.i64.wrap (m : Int) = m := by rw [IntKind.wrap_i64]; omega
  have hneg : ¬ ((m : Int) < 0) := by omega
  have h48i : ¬ (281474976710656 < (m : Int) * (i.bytes : Int)) := by rw [hby]; omega
  have hzl := zeroCells_one z m
  by_cases h0 : m = 0
  · subst h0
    have hw0 : IntKind.i64.wrap 0 = 0 := by decide
    simp at hst hroom
    simp [Builtin.append_, run_underlying ht, run_underlying htn, sizeOf, typeInfo, zeroValue, hi, hz, hsize, asInt, asIntOf, hw0, hroom, Addr.add_lit, hst]
  · simp [Builtin.append_, run_underlying ht, run_underlying htn, sizeOf, typeInfo, zeroValue, hi, hz, hsize, hzc, asInt, asIntOf, hw, hneg, h48i, hroom, h0, Addr.add_lit, hzl, hst]
theorem run_append_own_zeros {P : Program} (w : World) (base : Nat) (t tn ty e : TypeId) (i : TypeInfo) (z : Value) (kn : IntKind) (ht : P.underlying t = some (.slice e)) (htn : P.underlying tn = some (.int kn)) (hi : P.info? e = some i) (hz : i.zero = some z) (hsize : i.size = 1) (hby : i.bytes = 8) (hzc : z.cells = #[z]) (hz1 : z.oneCell' = true)
    (v : Value) (n : Nat) (xs : List Value) (hown : w.ownsRow base e 1 v n xs) (m : Nat) (h63 : n + m ≤ 1000000000000) (hbase : base ≤ w.heap.size) :
    ∃ v' w', (Builtin.append_ #[t, tn] ty #[v, .int .i64 m]).run P w = .ok v' w' ∧ w'.ownsRow base e 1 v' (n + m) (xs ++ List.replicate m z) ∧ w.grownBy w' v.ownBlock ∧ (v'.ownBlock = v.ownBlock ∨ v'.ownBlock = some w.heap.size) := by
  have hml : n + m ≤ maxLen := by simp only [maxLen]; omega
  have hlen : (xs ++ List.replicate m z).length = n + m := by rw [List.length_append, hown.1, List.length_replicate]; omega
  have hzcs : ∀ k, Builtin.zeroCells z.cells k = (List.replicate k z).toArray := fun k => by
    apply Array.ext'
    rw [hzc, zeroCells_one]
  have grown : ∀ (old : Nat), old < n + m → ∀ (row : Option Nat),
      (w.drew.alloc (.cells (xs.toArray ++ Builtin.zeroCells z.cells m ++ Builtin.zeroCells z.cells (grownCap w (n + m) old e - (n + m))) e)).ownsRow base e 1
        (.slice (some ⟨w.heap.size, 0, none⟩) (n + m) (grownCap w (n + m) old e)) (n + m) (xs ++ List.replicate m z) ∧
      w.grownBy (w.drew.alloc (.cells (xs.toArray ++ Builtin.zeroCells z.cells m ++ Builtin.zeroCells z.cells (grownCap w (n + m) old e - (n + m))) e)) row := by
    intro old ho row
    have hge := grownCap_ge w (n + m) old e
    have hcm : grownCap w (n + m) old e ≤ maxLen := grownCap_le_maxLen w (n + m) old e hml
    have hx := hown.1
    refine ⟨⟨by rw [hlen]; omega, .inr ⟨w.heap.size, _, _, rfl, hbase, heap_alloc_new w.drew _, hge, hcm, ?_, ?_⟩⟩, ⟨rfl, rfl, rfl, by simp, fun k hk _ => (Below.refl w.heap.size w.drew |>.alloc (Nat.le_refl _) _).block k hk⟩⟩
    · rw [hzcs, hzcs]
      simp [hx]
      omega
    · rw [hzcs, hzcs]
      simp only [Array.toList_append, List.append_assoc]
      rw [← List.append_assoc, show (n + m) * 1 = (xs ++ List.replicate m z).length by rw [hlen]; omega]
      exact List.take_left
  rcases hown.2 with ⟨rfl, rfl⟩ | ⟨g, cap, cur, rfl, hbg, hg, hnc, hcm, hcs, htake⟩
  · have hx : xs = [] := List.eq_nil_of_length_eq_zero (by simpa using hown.1)
    subst hx
    by_cases hm : m = 0
    · subst hm
      have hw0 : IntKind.i64.wrap 0 = 0 := by decide
      refine ⟨.slice none 0 0, w, ?_, World.ownsRow_nil w base e 1, ⟨rfl, rfl, rfl, Nat.le_refl _, fun _ _ _ => rfl⟩, .inl rfl⟩
      simp [Builtin.append_, run_underlying ht, run_underlying htn, sizeOf, typeInfo, hi, hsize, asInt, asIntOf, hw0]
    · have hr := Lib.run_append_nil_zeros (P := P) w t tn ty e i z .i64 kn ht htn hi hz m (by omega) (by omega) (by omega) (by rw [hby]; omega)
      have hgr := grown 0 (by omega) (Value.ownBlock (.slice none 0 0))
      simp only [Nat.zero_add, List.nil_append, Array.empty_append] at hgr ⊢
      exact ⟨_, _, hr, hgr.1, hgr.2, .inr rfl⟩
  · by_cases hroom : n + m ≤ cap
    · have hr := run_append_room_zeros (P := P) w t tn ty e i z kn ht htn hi hz hsize hzc hz1 g n cap cur hg m (by omega) hby hroom (by omega)
      refine ⟨_, _, hr, ⟨by rw [hlen]; omega, .inr ⟨g, cap, _, rfl, hbg, setRow_heap w g cur _ e _ hg, hroom, hcm, ?_, ?_⟩⟩, ⟨rfl, rfl, rfl, by simp, fun k _ hk => setRow_other w g k _ (fun e => hk (by simp [Value.ownBlock, e]))⟩, .inl rfl⟩
      · simp only [List.size_toArray, List.length_append, List.length_take, List.length_drop, Array.length_toList, List.length_replicate]
        omega
      · rw [Nat.mul_one] at htake
        rw [htake, show (n + m) * 1 = (xs ++ List.replicate m z).length by rw [hlen]; omega]
        exact List.take_left
    · have holds : ∀ j u, xs[j]? = some u → w.cell? ((⟨g, 0, none⟩ : Addr).add j) = some u := hown.cells (g := g) rfl
      have hold := run_firstCells_some (P := P) w.drew i.size n ⟨g, 0, none⟩ n cap xs (by rw [hown.1, hsize]) (by simpa using holds)
      have hr := Lib.run_append_grow_zeros (P := P) w t tn ty e i z .i64 kn ht htn hi hz (some ⟨g, 0, none⟩) n cap xs hold m (by omega) (by omega) (by omega) (by omega) (by rw [hby]; omega) (growslice_fits (by omega) (by rw [hby]; omega))
      have hgr := grown cap (by omega) (Value.ownBlock (.slice (some ⟨g, 0, none⟩) n cap))
      exact ⟨_, _, hr, hgr.1, hgr.2, .inr rfl⟩
end Go.Proofs.YtmfkpmepgbjmkaaGreatDoor
