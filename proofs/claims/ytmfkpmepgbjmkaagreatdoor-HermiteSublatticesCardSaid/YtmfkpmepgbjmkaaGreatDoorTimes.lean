/-
  WALKS: decimal.pieces' times: the product, digit by digit.
-/
import Derived.Test.YtmfkpmepgbjmkaaGreatDoorComp
import Derived.Deep.OwnRows
set_option linter.unusedVariables false
set_option linter.unusedSimpArgs false
namespace Go.Proofs.YtmfkpmepgbjmkaaGreatDoor
open Go.RowKit

def U (ds : List Int) : List Value := ds.map fun d => Value.int .u64 d
/-- A block that is just these digits. -/
def UB (w : World) (g : Nat) (ds : List Int) : Prop := w.heap[g]? = some (.cells (U ds).toArray 166 (0, 0))
section
variable {w w1 : World} {g : Nat} {ds : List Int}
theorem UB.lt (h : UB w g ds) : g < w.heap.size := (Array.getElem?_eq_some_iff.1 h).1
theorem UB.cell (h : UB w g ds) {i : Nat} (hi : i < ds.length) : w.cell? ⟨g, i, none⟩ = some (.int .u64 (ds.getD i 0)) := by
  unfold UB at h
  simp only [World.cell?, h]
  simp [U, List.getD_eq_getElem?_getD, List.getElem?_eq_getElem hi]
theorem UB.frozen (h : UB w g ds) (i : Nat) : w.frozen? ⟨g, i, none⟩ = false := by
  unfold UB at h
  simp [World.frozen?, h]
theorem UB.set (h : UB w g ds) (i : Nat) (x : Int) : UB (w.setCell ⟨g, i, none⟩ (.int .u64 x)) g (ds.set i x) := by
  unfold UB at h ⊢
  simp [World.setCell, Array.getElem?_modify, h, U, List.map_set]
theorem UB.of_block (h : UB w g ds) (hb : w1.heap[g]? = w.heap[g]?) : UB w1 g ds := hb.trans h
theorem UB.made (w : World) (n : Nat) : UB (w.alloc (.cells (madeCells #[Value.int .u64 0] n) 166)) w.heap.size (List.replicate n 0) := by
  unfold UB
  rw [heap_alloc_new]
  congr 2
  rw [← Array.toArray_toList (xs := madeCells #[Value.int .u64 0] n), toList_madeCells_one]
  simp [U]
end

/-- A row of digits of one's own, with no zero at its end. -/
structure Pc (base : Nat) (w : World) (v : Value) (ds : List Int) : Prop where
  own : w.ownsRow base 166 1 v ds.length (U ds)
  dig : Dig ds
  top : Top ds
theorem own_rd {base n : Nat} {w : World} {v : Value} {ds : List Int} (h : w.ownsRow base 166 1 v n (U ds)) : ∃ A c, v = .slice A n c ∧ n ≤ c ∧ c ≤ maxLen ∧ Rd .u64 w A n ds := by
  have hl : ds.length = n := by have := h.1; simpa [U] using this
  rcases h.2 with ⟨rfl, rfl⟩ | ⟨g, cap, cur, rfl, hb, hh, h1, h2, h3, h4⟩
  · exact ⟨none, 0, rfl, Nat.le_refl _, by simp [maxLen], hl, fun i hi => by omega⟩
  · refine ⟨_, cap, rfl, h1, h2, hl, fun i hi => ⟨g, rfl, ?_⟩⟩
    have h5 : (cur.toList.take (n * 1))[i]? = (U ds)[i]? := by rw [h4]
    rw [List.getElem?_take_of_lt (by omega)] at h5
    simp only [World.cell?, hh]
    simp only [Option.isSome_none, Bool.false_eq_true, if_false]
    rw [← Array.getElem?_toList, h5]
    simp [U, List.getD_eq_getElem?_getD, List.getElem?_eq_getElem (show i < ds.length by omega)]
/-- Behind trim: what is left of a block of digits. -/
theorem UB.trimmed {base : Nat} {w : World} {g m : Nat} {ds : List Int} (h : UB w g ds) (hb : base ≤ g) (ht : Trims ds m) (hd : Dig ds) (hm : ds.length ≤ maxLen) :
    Pc base w (.slice (some ⟨g, 0, none⟩) m ds.length) (ds.take m) ∧ val (ds.take m) = val ds ∧ (ds.take m).length = m := by
  have hl : (ds.take m).length = m := by rw [List.length_take, Nat.min_eq_left ht.1]
  refine ⟨⟨?_, hd.take m, ?_⟩, ?_, hl⟩
  · rw [hl]
    refine ⟨by simp [U, Nat.min_eq_left ht.1], .inr ⟨g, ds.length, _, rfl, hb, h, ht.1, hm, by simp [U], ?_⟩⟩
    simp [U, List.map_take]
  · unfold Top
    rw [hl]
    rcases ht.2.2 with h0 | h0
    · exact .inl (by rw [h0]; rfl)
    · right
      rcases Nat.eq_zero_or_pos m with h1 | h1
      · subst h1
        rw [List.getD_eq_getElem?_getD, List.getElem?_take_eq_none (by omega)]
        simp at h0 ⊢
        have := ht.2.1 0 (by omega)
        rcases Nat.eq_zero_or_pos ds.length with h2 | h2
        · have : ds = [] := List.eq_nil_of_length_eq_zero h2
          subst this
          simp at h0
        · exact absurd (by simpa using this h2) h0
      · rw [List.getD_eq_getElem?_getD, List.getElem?_take_of_lt (by omega), ← List.getD_eq_getElem?_getD]
        exact h0
  · have h1 := val_take_drop ds m ht.1
    have h2 : val (ds.drop m) = 0 := val_all_zero (fun d hd => by
      obtain ⟨i, hi, rfl⟩ := List.getElem_of_mem hd
      rw [List.getElem_drop]
      have h3 := ht.2.1 (m + i) (by omega) (by rw [List.length_drop] at hi; omega)
      rw [List.getD_eq_getElem?_getD, List.getElem?_eq_getElem (by rw [List.length_drop] at hi; omega)] at h3
      simpa using h3)
    rw [h2] at h1
    simpa using h1.symm

/-! ### times -/
/-- One digit's product is added: what holds of the digits while place k of q is up. -/
structure Inner (i k m : Nat) (a c : Int) (q o0 o : List Int) : Prop where
  len : o.length = o0.length
  dig : Dig o
  far : ∀ j, i + k ≤ j → o.getD j 0 = o0.getD j 0
  val : val o + B9 ^ (i + k) * c = val o0 + B9 ^ i * (a * val (q.take k))
  c0 : 0 ≤ c
  c1 : c < 1000000000
theorem Inner.start (i m : Nat) (a : Int) (q o : List Int) (hd : Dig o) : Inner i 0 m a 0 q o o :=
  ⟨rfl, hd, fun _ _ => rfl, by simp [Go.Proofs.YtmfkpmepgbjmkaaGreatDoor.val], by decide, by decide⟩
theorem getD_set_ne (l : List Int) {i j : Nat} (h : i ≠ j) (x : Int) : (l.set i x).getD j 0 = l.getD j 0 := by
  rw [List.getD_eq_getElem?_getD, List.getD_eq_getElem?_getD, List.getElem?_set_ne h]
theorem getD_set_eq (l : List Int) {i : Nat} (h : i < l.length) (x : Int) : (l.set i x).getD i 0 = x := by
  rw [List.getD_eq_getElem?_getD, List.getElem?_set_self h]
  rfl
theorem mul_range {a b : Int} (a0 : 0 ≤ a) (a1 : a < 1000000000) (b0 : 0 ≤ b) (b1 : b < 1000000000) : 0 ≤ a * b ∧ a * b ≤ 999999998000000001 := by
  refine ⟨Int.mul_nonneg a0 b0, ?_⟩
  have h1 : a * b ≤ 999999999 * b := Int.mul_le_mul_of_nonneg_right (by omega) b0
  omega
theorem Inner.step {i k m : Nat} {a c : Int} {q o0 o : List Int} (h : Inner i k m a c q o0 o) (hk : k < q.length) (hik : i + k < o.length) (a0 : 0 ≤ a) (a1 : a < 1000000000) (hq : Dig q) :
    Inner i (k + 1) m a ((c + (o.getD (i + k) 0 + a * q.getD k 0)) / 1000000000) q o0 (o.set (i + k) ((c + (o.getD (i + k) 0 + a * q.getD k 0)) % 1000000000)) := by
  obtain ⟨q0, q1⟩ := hq.at_ k
  obtain ⟨x0, x1⟩ := h.dig.at_ (i + k)
  obtain ⟨p0, p1⟩ := mul_range a0 a1 q0 q1
  have hc0 := h.c0
  have hc1 := h.c1
  refine ⟨by rw [List.length_set]; exact h.len, h.dig.set _ (by omega) (by omega), fun j hj => ?_, ?_, by omega, by omega⟩
  · rw [getD_set_ne _ (by omega)]
    exact h.far j (by omega)
  · have hv := h.val
    rw [val_set o (i + k) hik, val_take_succ q k hk, ← Nat.add_assoc, Int.pow_succ, Int.mul_add, Int.mul_add, ← Int.mul_assoc (B9 ^ i) a]
    rw [show B9 ^ i * (a * (B9 ^ k * q.getD k 0)) = B9 ^ (i + k) * (a * q.getD k 0) from by rw [Int.pow_add]; grind]
    rw [show B9 ^ i * a * Go.Proofs.YtmfkpmepgbjmkaaGreatDoor.val (q.take k) = B9 ^ i * (a * Go.Proofs.YtmfkpmepgbjmkaaGreatDoor.val (q.take k)) from Int.mul_assoc _ _ _]
    rw [show ∀ z : Int, Go.Proofs.YtmfkpmepgbjmkaaGreatDoor.val o0 + (B9 ^ i * (a * Go.Proofs.YtmfkpmepgbjmkaaGreatDoor.val (q.take k)) + z) = (Go.Proofs.YtmfkpmepgbjmkaaGreatDoor.val o0 + B9 ^ i * (a * Go.Proofs.YtmfkpmepgbjmkaaGreatDoor.val (q.take k))) + z from fun z => by omega, ← hv]
    generalize a * q.getD k 0 = y at *
    generalize o.getD (i + k) 0 = x at *
    generalize B9 ^ (i + k) = p
    have e : (c + (x + y)) % 1000000000 = (c + (x + y)) - 1000000000 * ((c + (x + y)) / 1000000000) := by omega
    rw [e]
    generalize (c + (x + y)) / 1000000000 = z
    show Go.Proofs.YtmfkpmepgbjmkaaGreatDoor.val o + p * (c + (x + y) - 1000000000 * z - x) + p * 1000000000 * z = _
    grind
/-- The first i digits of p are done. -/
structure Outer (i n m : Nat) (p q o : List Int) : Prop where
  len : o.length = n + m
  dig : Dig o
  far : ∀ j, i + m ≤ j → o.getD j 0 = 0
  val : val o = val (p.take i) * val q
theorem Outer.start (n m : Nat) (p q : List Int) : Outer 0 n m p q (List.replicate (n + m) 0) :=
  ⟨by simp, Dig.zeros _, fun j _ => by rw [List.getD_eq_getElem?_getD, List.getElem?_replicate]; split <;> rfl, by rw [val_zeros]; simp [Go.Proofs.YtmfkpmepgbjmkaaGreatDoor.val]⟩
theorem Outer.step {i n m : Nat} {p q o o1 : List Int} {c : Int} (h : Outer i n m p q o) (hi : i < p.length) (hp : p.length = n) (hq : q.length = m) (h1 : Inner i m m (p.getD i 0) c q o o1) :
    Outer (i + 1) n m p q (o1.set (i + m) c) := by
  have hl : o1.length = n + m := h1.len.trans h.len
  refine ⟨by rw [List.length_set]; exact hl, h1.dig.set _ h1.c0 h1.c1, fun j hj => ?_, ?_⟩
  · rw [getD_set_ne _ (by omega), h1.far j (by omega)]
    exact h.far j (by omega)
  · rw [val_set _ _ (by omega), h1.far _ (Nat.le_refl _), h.far _ (Nat.le_refl _), val_take_succ p i hi]
    have hv := h1.val
    rw [h.val, ← hq, List.take_length] at hv
    rw [← hq]
    generalize B9 ^ i = b at *
    generalize B9 ^ (i + q.length) = d at *
    generalize Go.Proofs.YtmfkpmepgbjmkaaGreatDoor.val (p.take i) = x at *
    generalize Go.Proofs.YtmfkpmepgbjmkaaGreatDoor.val q = y at *
    generalize p.getD i 0 = z at *
    grind

def TimesPost (p q : List Int) (w : World) (e : Ending) (w' : World) : Prop :=
  ∃ v ds, e = .returned v ∧ Pc w.heap.size w' v ds ∧ val ds = val p * val q ∧ ds.length ≤ p.length + q.length ∧ Below w.heap.size w w'

theorem Tryz.infoU : (Tryz.prog.info? 166).map (fun i => (i.zero, i.size, i.bytes)) = some (some (.int .u64 0), 1, 8) := by kernel_rfl

set_option maxRecDepth 100000 in
set_option maxHeartbeats 1600000 in
theorem times_any (A A' : Option Addr) (n m c c' : Nat) (ds es : List Int) (w : World) (hr : Rd .u64 w A n ds) (hs : Rd .u64 w A' m es)
    (hn : n ≤ 1000000000000) (hm : m ≤ 1000000000000) (hd : Dig ds) (he : Dig es) :
    Calls Tryz.prog 141 #[.slice A n c, .slice A' m c'] w (TimesPost ds es w) := by
  have H1 := Lib.hid hr
  have H2 := Lib.hid hs
  have HD := Lib.hid (And.intro hd he)
  have L1 := Lib.hid hr.1
  have L2 := Lib.hid hs.1
  clear hr hs hd he
  have hmk : ∀ W, (Instr.makeSlice 171 (.int .i64 ((n : Int) + (m : Int))) (.int .i64 ((n : Int) + (m : Int)))).run Tryz.prog W = .ok (.slice (some ⟨W.heap.size, 0, none⟩) (n + m) (n + m)) (W.alloc (.cells (madeCells #[Value.int .u64 0] (n + m)) 166)) := fun W => by
    have := run_make_row' (P := Tryz.prog) 171 166 (.int .u64 0) 8 Tryz.underlying171 Tryz.infoU rfl .i64 .i64 (n + m) (by omega) (by omega) W
    rw [Int.natCast_add] at this
    exact this
  go_enter Tryz.func141, Tryz.ntmps141
  go_wp2_with fail
  go_loopw [19] (fun s wr => ∃ (i : Nat) (o : List Int), i ≤ n ∧ s = .int .i64 i ∧ UB wr w.heap.size o ∧ Hid (Outer i n m ds es o) ∧ Below w.heap.size w wr) (fun s _ => n - (intOf s).toNat)
  case atStart => exact ⟨0, _, Nat.zero_le _, rfl, UB.made w (n + m), Outer.start n m ds es, nb_alloc _ _⟩
  case round =>
    obtain ⟨i, o, hi, rfl, hub, ho, hb⟩ := hrel
    by_cases hlt : i < n
    · obtain ⟨g, hA, c1⟩ := (H1.out.nb hb).at_ (i := i) hlt
      subst hA
      obtain ⟨a, ha⟩ : ∃ a, a = ds.getD i 0 := ⟨_, rfl⟩
      rw [← ha] at c1
      have HA := Lib.hid ha
      clear ha
      obtain ⟨wo, hwo⟩ : ∃ wo, wo = wr := ⟨_, rfl⟩
      subst hwo
      have HUB := Lib.hid hub
      clear hub
      go_wp2_with fail
      go_loopw [8, 26] (fun sc sk wr => ∃ (k : Nat) (cc : Int) (o1 : List Int), k ≤ m ∧ sc = .int .u64 cc ∧ sk = .int .i64 k ∧ UB wr w.heap.size o1 ∧ Hid (Inner i k m a cc es o o1) ∧ Below w.heap.size w wr) (fun _ sk _ => m - (intOf sk).toNat)
      case atStart => exact ⟨0, 0, o, Nat.zero_le _, rfl, rfl, HUB.out, Inner.start i m a es o ho.out.dig, hb⟩
      case round =>
        obtain ⟨k, cc, o1, hk, rfl, rfl, hub, hin, hb1⟩ := hrel
        by_cases hkm : k < m
        · obtain ⟨g2, hA2, c2⟩ := (H2.out.nb hb1).at_ (i := k) hkm
          subst hA2
          have ho1 : o1.length = n + m := hin.out.len.trans ho.out.len
          have c3 := hub.cell (i := i + k) (by omega)
          have c4 := hub.frozen (i + k)
          obtain ⟨y, hy⟩ : ∃ y, y = es.getD k 0 := ⟨_, rfl⟩
          obtain ⟨x, hx⟩ : ∃ x, x = o1.getD (i + k) 0 := ⟨_, rfl⟩
          rw [← hy] at c2
          rw [← hx] at c3
          obtain ⟨a0, a1⟩ : 0 ≤ a ∧ a < 1000000000 := by rw [HA.out]; exact HD.out.1.at_ _
          obtain ⟨y0, y1⟩ : 0 ≤ y ∧ y < 1000000000 := by rw [hy]; exact HD.out.2.at_ _
          obtain ⟨x0, x1⟩ : 0 ≤ x ∧ x < 1000000000 := by rw [hx]; exact hin.out.dig.at_ _
          have k0 := hin.out.c0
          have k1 := hin.out.c1
          obtain ⟨p0, p1⟩ := mul_range a0 a1 y0 y1
          have HY := Lib.hid hy
          have HX := Lib.hid hx
          have HO1 := Lib.hid ho1
          clear hy hx ho1
          have hst : Hid (Inner i (k + 1) m a ((cc + (x + a * y)) / 1000000000) es o (o1.set (i + k) ((cc + (x + a * y)) % 1000000000))) := by
            have := hin.out.step (by rw [L2.out]; exact hkm) (by rw [HO1.out]; omega) a0 a1 HD.out.2
            rw [← HY.out, ← HX.out] at this
            exact this
          go_wp2_with fail
          go_roundw
          case rel => exact ⟨k + 1, _, _, by omega, rfl, by go_num, hub.set _ _, hst, hb1.setCell (p := ⟨w.heap.size, i + k, none⟩) (Nat.le_refl _) _⟩
          case measure => simp [intOf]; omega
        · obtain rfl : k = m := by omega
          have ho1 : o1.length = n + k := hin.out.len.trans ho.out.len
          have c3 := hub.cell (i := i + k) (by omega)
          have c4 := hub.frozen (i + k)
          have HO1 := Lib.hid ho1
          clear ho1
          have hst : Hid (Outer (i + 1) n k ds es (o1.set (i + k) cc)) :=
            ho.out.step (by rw [L1.out]; exact hlt) L1.out L2.out (by rw [← HA.out]; exact hin.out)
          go_wp2_with fail
          go_roundw
          case rel => exact ⟨i + 1, _, by omega, by go_num, hub.set _ _, hst, hb1.setCell (p := ⟨w.heap.size, i + k, none⟩) (Nat.le_refl _) _⟩
          case measure => simp [intOf]; omega
    · obtain rfl : i = n := by omega
      have hol : Hid (o.length = i + m) := ho.out.len
      have hrd : Hid (Rd .u64 wr (some ⟨w.heap.size, 0, none⟩) (i + m) o) := ⟨hol.out, fun j hj => ⟨_, rfl, hub.cell (by rw [hol.out]; exact hj)⟩⟩
      go_wp2_with fail
      refine (trim_any _ _ _ o _ hrd.out (Nat.le_refl _) (by omega)).mono ?_
      rintro e w1 ⟨t, ht, rfl, rfl⟩
      go_wp2_with fail
      go_ret
      obtain ⟨h1, h2, h3⟩ := hub.trimmed (base := w.heap.size) (Nat.le_refl _) ht ho.out.dig (by rw [hol.out]; simp only [maxLen]; omega)
      rw [hol.out] at h1
      refine ⟨_, o.take t, rfl, h1, ?_, ?_, hb⟩
      · rw [h2, ho.out.val, ← L1.out, List.take_length]
      · rw [h3, L1.out, L2.out]
        have := ht.1
        rw [hol.out] at this
        exact this
end Go.Proofs.YtmfkpmepgbjmkaaGreatDoor
