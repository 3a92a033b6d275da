/-
  WALKS: decimal.pieces' take and back.
-/
import Derived.Test.YtmfkpmepgbjmkaaGreatDoorCut
set_option linter.unusedVariables false
set_option linter.unusedSimpArgs false
namespace Go.Proofs.YtmfkpmepgbjmkaaGreatDoor
open Go.RowKit

/-- A block of cap digits, of which these are the first. -/
def OB (w : World) (g cap : Nat) (ds : List Int) : Prop := ∃ cur : Array Value, w.heap[g]? = some (.cells cur 166 (0, 0)) ∧ cur.size = cap ∧ cur.toList.take ds.length = U ds
section
variable {w w1 : World} {g cap : Nat} {ds : List Int}
theorem OB.row (h : OB w g cap ds) : VRow 166 w g (U ds) := by
  obtain ⟨cur, h1, _, h3⟩ := h
  exact ⟨cur, h1, by simpa [U] using h3⟩
theorem OB.lt (h : OB w g cap ds) : g < w.heap.size := h.row.lt
theorem OB.of_block (h : OB w g cap ds) (hb : w1.heap[g]? = w.heap[g]?) : OB w1 g cap ds := by
  obtain ⟨cur, h1, h2⟩ := h
  exact ⟨cur, hb.trans h1, h2⟩
theorem OB.cell (h : OB w g cap ds) {i : Nat} (hi : i < ds.length) : w.cell? ⟨g, i, none⟩ = some (.int .u64 (ds.getD i 0)) := by
  rw [h.row.cell (by simpa [U] using hi)]
  simp [U, List.getD_eq_getElem?_getD, List.getElem?_eq_getElem hi]
theorem OB.frozen (h : OB w g cap ds) (i : Nat) : w.frozen? ⟨g, i, none⟩ = false := h.row.frozen i
theorem OB.set (h : OB w g cap ds) (i : Nat) (x : Int) : OB (w.setCell ⟨g, i, none⟩ (.int .u64 x)) g cap (ds.set i x) := by
  obtain ⟨cur, hc, hs, ht⟩ := h
  refine ⟨cur.setIfInBounds i (.int .u64 x), ?_, by simp [hs], ?_⟩
  · simp [World.setCell, Array.getElem?_modify, hc]
  · rw [Array.toList_setIfInBounds, List.length_set, show U (ds.set i x) = (U ds).set i (.int .u64 x) from by simp [U, List.map_set]]
    conv => rhs; rw [← ht]
    rw [List.take_set]
theorem OB.own {base : Nat} (h : OB w g cap ds) (hb : base ≤ g) (hc : ds.length ≤ cap) (hm : cap ≤ maxLen) : w.ownsRow base 166 1 (.slice (some ⟨g, 0, none⟩) ds.length cap) ds.length (U ds) := by
  obtain ⟨cur, h1, h2, h3⟩ := h
  exact ⟨by simp [U], .inr ⟨g, cap, cur, rfl, hb, h1, hc, hm, by omega, by simpa using h3⟩⟩
theorem own_OB {base n : Nat} {v : Value} (h : w.ownsRow base 166 1 v n (U ds)) (hn : 0 < n) : ∃ g cap, v = .slice (some ⟨g, 0, none⟩) n cap ∧ n ≤ cap ∧ cap ≤ maxLen ∧ base ≤ g ∧ OB w g cap ds := by
  have hl : ds.length = n := by have := h.1; simpa [U] using this
  rcases h.2 with ⟨rfl, rfl⟩ | ⟨g, cap, cur, rfl, hb, hh, h1, h2, h3, h4⟩
  · omega
  · exact ⟨g, cap, rfl, h1, h2, hb, cur, hh, by omega, by rw [hl]; simpa using h4⟩
end
theorem val_take_any (ds : List Int) (k : Nat) : val (ds.take (k + 1)) = val (ds.take k) + B9 ^ k * ds.getD k 0 := by
  rcases Nat.lt_or_ge k ds.length with h | h
  · exact val_take_succ ds k h
  · rw [List.take_of_length_le (by omega), List.take_of_length_le h, List.getD_eq_getElem?_getD, List.getElem?_eq_none h]
    simp
theorem Rd.blk {k : IntKind} {w : World} {A : Option Addr} {n : Nat} {ds : List Int} (h : Rd k w A n ds) {w1 : World} {g : Nat} (hk : Kp (· = g) w w1) (hA : ∀ g', A = some ⟨g', 0, none⟩ → g' ≠ g) : Rd k w1 A n ds :=
  ⟨h.1, fun i hi => by
    obtain ⟨g', h1, h2⟩ := h.2 i hi
    exact ⟨g', h1, hk.cell h2 (hA g' h1)⟩⟩

/-- Multiples are taken away, up to place k. -/
structure Tk (at_ k : Nat) (N c b : Int) (es o0 o : List Int) : Prop where
  len : o.length = o0.length
  dig : Dig o
  far : ∀ j, at_ + k ≤ j → o.getD j 0 = o0.getD j 0
  val : val o + B9 ^ at_ * (N * val (es.take k)) = val o0 + B9 ^ (at_ + k) * (b + c)
  c0 : 0 ≤ c
  c1 : c < 1000000000
  b01 : b = 0 ∨ b = 1
theorem Tk.start (at_ : Nat) (N : Int) (es o : List Int) (hd : Dig o) : Tk at_ 0 N 0 0 es o o :=
  ⟨rfl, hd, fun _ _ => rfl, by simp [Go.Proofs.YtmfkpmepgbjmkaaGreatDoor.val], by decide, by decide, .inl rfl⟩
theorem Tk.step {at_ k : Nat} {N c b d b' : Int} {es o0 o : List Int} (h : Tk at_ k N c b es o0 o) (hk : at_ + k < o.length) (he : Dig es) (n0 : 0 ≤ N) (n1 : N < 1000000000)
    (hd : d = o.getD (at_ + k) 0 - (c + N * es.getD k 0) % 1000000000 - b + 1000000000 * b') (hb' : b' = 0 ∨ b' = 1) (d0 : 0 ≤ d) (d1 : d < 1000000000) :
    Tk at_ (k + 1) N ((c + N * es.getD k 0) / 1000000000) b' es o0 (o.set (at_ + k) d) := by
  obtain ⟨e0, e1⟩ := he.at_ k
  obtain ⟨p0, p1⟩ := mul_range n0 n1 e0 e1
  have hc0 := h.c0
  have hc1 := h.c1
  refine ⟨by rw [List.length_set]; exact h.len, h.dig.set _ d0 d1, fun j hj => ?_, ?_, by omega, by omega, hb'⟩
  · rw [getD_set_ne _ (by omega)]
    exact h.far j (by omega)
  · have hv := h.val
    rw [val_set o (at_ + k) hk, val_take_any, ← Nat.add_assoc, Int.pow_succ, hd]
    have e : B9 ^ at_ * (N * (Go.Proofs.YtmfkpmepgbjmkaaGreatDoor.val (es.take k) + B9 ^ k * es.getD k 0)) = B9 ^ at_ * (N * Go.Proofs.YtmfkpmepgbjmkaaGreatDoor.val (es.take k)) + B9 ^ (at_ + k) * (N * es.getD k 0) := by
      rw [Int.pow_add]
      grind
    rw [e]
    generalize N * es.getD k 0 = y at *
    generalize o.getD (at_ + k) 0 = x at *
    generalize B9 ^ (at_ + k) = p at *
    generalize B9 ^ at_ * (N * Go.Proofs.YtmfkpmepgbjmkaaGreatDoor.val (es.take k)) = z at *
    generalize Go.Proofs.YtmfkpmepgbjmkaaGreatDoor.val o = vo at *
    generalize Go.Proofs.YtmfkpmepgbjmkaaGreatDoor.val o0 = v0 at *
    have em : (c + y) % 1000000000 = (c + y) - 1000000000 * ((c + y) / 1000000000) := by omega
    rw [em]
    generalize (c + y) / 1000000000 = q
    show vo + p * (x - (c + y - 1000000000 * q) - b + 1000000000 * b' - x) + (z + p * y) = v0 + p * 1000000000 * (b' + q)
    grind

/-- What take leaves. -/
def TakePost (g cap at_ m : Nat) (N : Int) (ds es : List Int) (w : World) (e : Ending) (w' : World) : Prop :=
  ∃ (b : Bool) (o : List Int), e = .returned (.bool b) ∧ OB w' g cap o ∧ o.length = ds.length ∧ Dig o ∧ (∀ j, at_ + m + 1 ≤ j → o.getD j 0 = ds.getD j 0) ∧
    val o + B9 ^ at_ * (N * val es) = val ds + B9 ^ (at_ + (m + 1)) * (if b then 1 else 0) ∧ Kp (· = g) w w'

set_option maxRecDepth 100000 in
set_option maxHeartbeats 1600000 in
theorem take_any (g n cap m c at_ : Nat) (A : Option Addr) (N : Int) (ds es : List Int) (w : World) (hl : ds.length = n) (ho : OB w g cap ds) (hr : Rd .u64 w A m es) (hA : ∀ g', A = some ⟨g', 0, none⟩ → g' ≠ g)
    (hn : n ≤ 1000000000000) (hat : at_ + m < n) (hd : Dig ds) (he : Dig es) (n0 : 0 ≤ N) (n1 : N < 1000000000) :
    Calls Tryz.prog 140 #[.slice (some ⟨g, 0, none⟩) n cap, .slice A m c, .int .u64 N, .int .i64 at_] w (TakePost g cap at_ m N ds es w) := by
  have H1 := Lib.hid hr
  have HA := Lib.hid hA
  have HD := Lib.hid hd
  have HE := Lib.hid he
  have HL := Lib.hid hl
  have L1 := Lib.hid hr.1
  clear hr hA hd he hl
  go_enter Tryz.func140, Tryz.ntmps140
  go_wp2_with fail
  go_loopw [9, 10, 11] (fun sb sc sk wr => ∃ (k : Nat) (b cc : Int) (o : List Int), k ≤ m + 1 ∧ sb = .int .i64 b ∧ sc = .int .u64 cc ∧ sk = .int .i64 k ∧ OB wr g cap o ∧ Hid (Tk at_ k N cc b es ds o) ∧ Kp (· = g) w wr ∧ (k = m + 1 → cc = 0)) (fun _ _ sk _ => m + 1 - (intOf sk).toNat)
  case atStart => exact ⟨0, 0, 0, ds, by omega, rfl, rfl, rfl, ho, Tk.start at_ N es ds HD.out, Kp.refl _ _, (fun h => by omega)⟩
  case round =>
    obtain ⟨k, b, cc, o, hk, rfl, rfl, rfl, hob, ht, hkp, hlast⟩ := hrel
    by_cases hle : k ≤ m
    · have hol : o.length = n := ht.out.len.trans HL.out
      have c3 := hob.cell (i := at_ + k) (by omega)
      have c4 := hob.frozen (at_ + k)
      obtain ⟨x, hx⟩ : ∃ x, x = o.getD (at_ + k) 0 := ⟨_, rfl⟩
      rw [← hx] at c3
      obtain ⟨x0, x1⟩ : 0 ≤ x ∧ x < 1000000000 := by rw [hx]; exact ht.out.dig.at_ _
      have k0 := ht.out.c0
      have k1 := ht.out.c1
      have b0 : 0 ≤ b := by rcases ht.out.b01 with h | h <;> omega
      have b1 : b ≤ 1 := by rcases ht.out.b01 with h | h <;> omega
      have HX := Lib.hid hx
      have HO := Lib.hid hol
      clear hx hol
      by_cases hkm : k < m
      · obtain ⟨g2, hA2, c2⟩ := (H1.out.blk hkp HA.out).at_ (i := k) hkm
        subst hA2
        obtain ⟨y, hy⟩ : ∃ y, y = es.getD k 0 := ⟨_, rfl⟩
        rw [← hy] at c2
        obtain ⟨y0, y1⟩ : 0 ≤ y ∧ y < 1000000000 := by rw [hy]; exact HE.out.at_ _
        obtain ⟨p0, p1⟩ := mul_range n0 n1 y0 y1
        have hstep : Hid (∀ d b', d = x - (cc + N * y) % 1000000000 - b + 1000000000 * b' → (b' = 0 ∨ b' = 1) → 0 ≤ d → d < 1000000000 → Tk at_ (k + 1) N ((cc + N * y) / 1000000000) b' es ds (o.set (at_ + k) d)) := fun d b' q1 q2 q3 q4 => by
          rw [HX.out, hy] at q1
          rw [hy]
          exact ht.out.step (by rw [HO.out]; omega) HE.out n0 n1 q1 q2 q3 q4
        have HY := Lib.hid hy
        clear hy
        by_cases hneg : x - (cc + N * y) % 1000000000 - b < 0
        · have hst : Hid (Tk at_ (k + 1) N ((cc + N * y) / 1000000000) 1 es ds (o.set (at_ + k) (x - (cc + N * y) % 1000000000 - b + 1000000000))) := hstep.out _ _ (by omega) (by omega) (by omega) (by omega)
          go_wp2_with fail
          go_roundw
          case rel => exact ⟨k + 1, 1, _, _, by omega, rfl, by go_num, by go_num, hob.set _ _, hst, hkp.set (p := ⟨g, at_ + k, none⟩) rfl _, (fun h => by omega)⟩
          case measure => (simp [intOf]) <;> omega
        · have hst : Hid (Tk at_ (k + 1) N ((cc + N * y) / 1000000000) 0 es ds (o.set (at_ + k) (x - (cc + N * y) % 1000000000 - b))) := hstep.out _ _ (by omega) (by omega) (by omega) (by omega)
          go_wp2_with fail
          go_roundw
          case rel => exact ⟨k + 1, 0, _, _, by omega, rfl, by go_num, by go_num, hob.set _ _, hst, hkp.set (p := ⟨g, at_ + k, none⟩) rfl _, (fun h => by omega)⟩
          case measure => (simp [intOf]) <;> omega
      · obtain rfl : k = m := by omega
        obtain ⟨y, hy⟩ : ∃ y : Int, y = 0 := ⟨_, rfl⟩
        have hy' : y = es.getD k 0 := by rw [List.getD_eq_getElem?_getD, List.getElem?_eq_none (by rw [L1.out]; exact Nat.le_refl _), hy]; rfl
        obtain ⟨y0, y1⟩ : 0 ≤ y ∧ y < 1000000000 := by rw [hy']; exact HE.out.at_ _
        obtain ⟨p0, p1⟩ := mul_range n0 n1 y0 y1
        have hstep : Hid (∀ d b', d = x - (cc + N * y) % 1000000000 - b + 1000000000 * b' → (b' = 0 ∨ b' = 1) → 0 ≤ d → d < 1000000000 → Tk at_ (k + 1) N ((cc + N * y) / 1000000000) b' es ds (o.set (at_ + k) d)) := fun d b' q1 q2 q3 q4 => by
          rw [HX.out, hy'] at q1
          rw [hy']
          exact ht.out.step (by rw [HO.out]; omega) HE.out n0 n1 q1 q2 q3 q4
        have e1 : cc + N * y = cc := by rw [hy, Int.mul_zero, Int.add_zero]
        rw [e1] at hstep
        clear e1 hy hy' p0 p1 y0 y1
        by_cases hneg : x - cc % 1000000000 - b < 0
        · have hst : Hid (Tk at_ (k + 1) N (cc / 1000000000) 1 es ds (o.set (at_ + k) (x - cc % 1000000000 - b + 1000000000))) := hstep.out _ _ (by omega) (by omega) (by omega) (by omega)
          go_wp2_with fail
          go_roundw
          case rel => exact ⟨k + 1, 1, _, _, by omega, rfl, by go_num, by go_num, hob.set _ _, hst, hkp.set (p := ⟨g, at_ + k, none⟩) rfl _, (fun h => by omega)⟩
          case measure => (simp [intOf]) <;> omega
        · have hst : Hid (Tk at_ (k + 1) N (cc / 1000000000) 0 es ds (o.set (at_ + k) (x - cc % 1000000000 - b))) := hstep.out _ _ (by omega) (by omega) (by omega) (by omega)
          go_wp2_with fail
          go_roundw
          case rel => exact ⟨k + 1, 0, _, _, by omega, rfl, by go_num, by go_num, hob.set _ _, hst, hkp.set (p := ⟨g, at_ + k, none⟩) rfl _, (fun h => by omega)⟩
          case measure => (simp [intOf]) <;> omega
    · obtain rfl : k = m + 1 := by omega
      obtain rfl : cc = 0 := hlast rfl
      rcases ht.out.b01 with rfl | rfl
      · go_wp2_with fail
        go_ret
        refine ⟨false, o, rfl, hob, ht.out.len, ht.out.dig, ht.out.far, ?_, hkp⟩
        have := ht.out.val
        rw [List.take_of_length_le (by rw [L1.out]; omega)] at this
        simpa using this
      · go_wp2_with fail
        go_ret
        refine ⟨true, o, rfl, hob, ht.out.len, ht.out.dig, ht.out.far, ?_, hkp⟩
        have := ht.out.val
        rw [List.take_of_length_le (by rw [L1.out]; omega)] at this
        simpa using this

/-! ### back -/
structure Bk (at_ k : Nat) (c : Int) (es o0 o : List Int) : Prop where
  len : o.length = o0.length
  dig : Dig o
  far : ∀ j, at_ + k ≤ j → o.getD j 0 = o0.getD j 0
  val : val o + B9 ^ (at_ + k) * c = val o0 + B9 ^ at_ * val (es.take k)
  c0 : 0 ≤ c
  c1 : c ≤ 1
theorem Bk.start (at_ : Nat) (es o : List Int) (hd : Dig o) : Bk at_ 0 0 es o o :=
  ⟨rfl, hd, fun _ _ => rfl, by simp [Go.Proofs.YtmfkpmepgbjmkaaGreatDoor.val], by decide, by decide⟩
theorem Bk.step {at_ k : Nat} {c : Int} {es o0 o : List Int} (h : Bk at_ k c es o0 o) (hk : at_ + k < o.length) (he : Dig es) :
    Bk at_ (k + 1) ((c + o.getD (at_ + k) 0 + es.getD k 0) / 1000000000) es o0 (o.set (at_ + k) ((c + o.getD (at_ + k) 0 + es.getD k 0) % 1000000000)) := by
  obtain ⟨e0, e1⟩ := he.at_ k
  obtain ⟨x0, x1⟩ := h.dig.at_ (at_ + k)
  have hc0 := h.c0
  have hc1 := h.c1
  refine ⟨by rw [List.length_set]; exact h.len, h.dig.set _ (by omega) (by omega), fun j hj => ?_, ?_, by omega, by omega⟩
  · rw [getD_set_ne _ (by omega)]
    exact h.far j (by omega)
  · have hv := h.val
    rw [val_set o (at_ + k) hk, val_take_any, ← Nat.add_assoc, Int.pow_succ]
    have e : B9 ^ at_ * (Go.Proofs.YtmfkpmepgbjmkaaGreatDoor.val (es.take k) + B9 ^ k * es.getD k 0) = B9 ^ at_ * Go.Proofs.YtmfkpmepgbjmkaaGreatDoor.val (es.take k) + B9 ^ (at_ + k) * es.getD k 0 := by
      rw [Int.pow_add]
      grind
    rw [e]
    generalize es.getD k 0 = y at *
    generalize o.getD (at_ + k) 0 = x at *
    generalize B9 ^ (at_ + k) = p at *
    generalize B9 ^ at_ * Go.Proofs.YtmfkpmepgbjmkaaGreatDoor.val (es.take k) = z at *
    generalize Go.Proofs.YtmfkpmepgbjmkaaGreatDoor.val o = vo at *
    generalize Go.Proofs.YtmfkpmepgbjmkaaGreatDoor.val o0 = v0 at *
    have em : (c + x + y) % 1000000000 = (c + x + y) - 1000000000 * ((c + x + y) / 1000000000) := by omega
    rw [em]
    generalize (c + x + y) / 1000000000 = q
    show vo + p * (c + x + y - 1000000000 * q - x) + p * 1000000000 * q = v0 + (z + p * y)
    grind
def BackPost (g cap at_ m : Nat) (ds es : List Int) (w : World) (e : Ending) (w' : World) : Prop :=
  ∃ (c : Int) (o : List Int), e = .returned (.tuple #[]) ∧ OB w' g cap o ∧ o.length = ds.length ∧ Dig o ∧ (∀ j, at_ + m + 1 ≤ j → o.getD j 0 = ds.getD j 0) ∧
    val o + B9 ^ (at_ + (m + 1)) * c = val ds + B9 ^ at_ * val es ∧ 0 ≤ c ∧ c ≤ 1 ∧ Kp (· = g) w w'

set_option maxRecDepth 100000 in
set_option maxHeartbeats 1600000 in
theorem back_any (g n cap m c at_ : Nat) (A : Option Addr) (ds es : List Int) (w : World) (hl : ds.length = n) (ho : OB w g cap ds) (hr : Rd .u64 w A m es) (hA : ∀ g', A = some ⟨g', 0, none⟩ → g' ≠ g)
    (hn : n ≤ 1000000000000) (hat : at_ + m < n) (hd : Dig ds) (he : Dig es) :
    Calls Tryz.prog 137 #[.slice (some ⟨g, 0, none⟩) n cap, .slice A m c, .int .i64 at_] w (BackPost g cap at_ m ds es w) := by
  have H1 := Lib.hid hr
  have HA := Lib.hid hA
  have HD := Lib.hid hd
  have HE := Lib.hid he
  have HL := Lib.hid hl
  have L1 := Lib.hid hr.1
  clear hr hA hd he hl
  go_enter Tryz.func137, Tryz.ntmps137
  go_wp2_with fail
  go_loopw [6, 7] (fun sc sk wr => ∃ (k : Nat) (cc : Int) (o : List Int), k ≤ m + 1 ∧ sc = .int .u64 cc ∧ sk = .int .i64 k ∧ OB wr g cap o ∧ Hid (Bk at_ k cc es ds o) ∧ Kp (· = g) w wr) (fun _ sk _ => m + 1 - (intOf sk).toNat)
  case atStart => exact ⟨0, 0, ds, by omega, rfl, rfl, ho, Bk.start at_ es ds HD.out, Kp.refl _ _⟩
  case round =>
    obtain ⟨k, cc, o, hk, rfl, rfl, hob, ht, hkp⟩ := hrel
    by_cases hle : k ≤ m
    · have hol : o.length = n := ht.out.len.trans HL.out
      have c3 := hob.cell (i := at_ + k) (by omega)
      have c4 := hob.frozen (at_ + k)
      obtain ⟨x, hx⟩ : ∃ x, x = o.getD (at_ + k) 0 := ⟨_, rfl⟩
      rw [← hx] at c3
      obtain ⟨x0, x1⟩ : 0 ≤ x ∧ x < 1000000000 := by rw [hx]; exact ht.out.dig.at_ _
      have k0 := ht.out.c0
      have k1 := ht.out.c1
      have hst := ht.out.step (by rw [hol]; omega) HE.out
      rw [← hx] at hst
      clear hx hol
      by_cases hkm : k < m
      · obtain ⟨g2, hA2, c2⟩ := (H1.out.blk hkp HA.out).at_ (i := k) hkm
        subst hA2
        obtain ⟨y, hy⟩ : ∃ y, y = es.getD k 0 := ⟨_, rfl⟩
        rw [← hy] at c2 hst
        obtain ⟨y0, y1⟩ : 0 ≤ y ∧ y < 1000000000 := by rw [hy]; exact HE.out.at_ _
        have HST := Lib.hid hst
        clear hst hy
        go_wp2_with fail
        go_roundw
        case rel => exact ⟨k + 1, _, _, by omega, rfl, by go_num, hob.set _ _, HST, hkp.set (p := ⟨g, at_ + k, none⟩) rfl _⟩
        case measure => (simp [intOf]) <;> omega
      · obtain rfl : k = m := by omega
        have hy : es.getD k 0 = 0 := by rw [List.getD_eq_getElem?_getD, List.getElem?_eq_none (by rw [L1.out]; exact Nat.le_refl _)]; rfl
        rw [hy, Int.add_zero] at hst
        have HST := Lib.hid hst
        clear hst hy
        go_wp2_with fail
        go_roundw
        case rel => exact ⟨k + 1, _, _, by omega, rfl, by go_num, hob.set _ _, HST, hkp.set (p := ⟨g, at_ + k, none⟩) rfl _⟩
        case measure => (simp [intOf]) <;> omega
    · obtain rfl : k = m + 1 := by omega
      go_wp2_with fail
      go_end0
      refine ⟨cc, o, rfl, hob, ht.out.len, ht.out.dig, ht.out.far, ?_, ht.out.c0, ht.out.c1, hkp⟩
      have := ht.out.val
      rw [List.take_of_length_le (by rw [L1.out]; omega)] at this
      exact this
end Go.Proofs.YtmfkpmepgbjmkaaGreatDoor
