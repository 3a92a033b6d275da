/-
  WALKS: decimal.pieces' text, and slices.Reverse of bytes.
-/
import Derived.Test.YtmfkpmepgbjmkaaGreatDoorSmallDiv
import Derived.Maps.AppendAt
import Derived.RegionTactic
set_option linter.unusedVariables false
set_option linter.unusedSimpArgs false
namespace Go.Proofs.YtmfkpmepgbjmkaaGreatDoor
open Go.RowKit

def U8 (ds : List Int) : List Value := ds.map fun d => Value.int .u8 d
/-- The number that bytes spell, the least significant digit first. -/
def lv : List Int → Int
  | [] => 0
  | c :: r => (c - 48) + 10 * lv r
def Asc (l : List Int) : Prop := ∀ c ∈ l, 48 ≤ c ∧ c ≤ 57
theorem Asc.append {a b : List Int} (ha : Asc a) (hb : Asc b) : Asc (a ++ b) := fun d hd => (List.mem_append.1 hd).elim (ha d) (hb d)
theorem lv_snoc (l : List Int) (c : Int) : lv (l ++ [c]) = lv l + 10 ^ l.length * (c - 48) := by
  induction l with
  | nil => show (c - 48) + 10 * 0 = 0 + 10 ^ 0 * (c - 48); rw [Int.pow_zero]; omega
  | cons d l ih =>
    show (d - 48) + 10 * lv (l ++ [c]) = ((d - 48) + 10 * lv l) + 10 ^ (l.length + 1) * (c - 48)
    rw [ih, Int.pow_succ]
    generalize (10 : Int) ^ l.length = p
    grind
/-- While digit k of a piece x is up: what is left of it is y. -/
structure Dg (m k : Nat) (x y : Int) (o0 o : List Int) : Prop where
  len : o.length = m + k
  asc : Asc o
  val : lv o + 10 ^ (m + k) * y = lv o0 + 10 ^ m * x
  y0 : 0 ≤ y
  y1 : y < 10 ^ (9 - k)
theorem Dg.start {m : Nat} {x : Int} {o : List Int} (hl : o.length = m) (ha : Asc o) (x0 : 0 ≤ x) (x1 : x < 1000000000) : Dg m 0 x x o o :=
  ⟨hl, ha, rfl, x0, by simpa using x1⟩
theorem Dg.step {m k : Nat} {x y : Int} {o0 o : List Int} (h : Dg m k x y o0 o) (hk : k < 9) : Dg m (k + 1) x (y / 10) o0 (o ++ [48 + y % 10]) := by
  have hl := h.len
  have hv := h.val
  have y0 := h.y0
  have y1 := h.y1
  refine ⟨by simp [hl]; omega, h.asc.append (fun c hc => by rw [List.mem_singleton.1 hc]; omega), ?_, by omega, ?_⟩
  · rw [lv_snoc, hl, ← Nat.add_assoc, Int.pow_succ, ← hv]
    generalize (10 : Int) ^ (m + k) = p
    have e : y % 10 = y - 10 * (y / 10) := by omega
    rw [e]
    generalize y / 10 = z
    grind
  · have e : 9 - k = (9 - (k + 1)) + 1 := by omega
    rw [e, Int.pow_succ] at y1
    omega
theorem Dg.nine {m : Nat} {x y : Int} {o0 o : List Int} (h : Dg m 9 x y o0 o) : y = 0 := by
  have := h.y0
  have h1 := h.y1
  simp at h1
  omega

/-- The numeral is told by its digits. -/
theorem dec_of_spell (l : List UInt8) : ∀ (u : Nat), (∀ c ∈ l, 48 ≤ c.toNat ∧ c.toNat ≤ 57) → (∃ c r, l = c :: r ∧ 49 ≤ c.toNat) → spell 0 l = u → l = Lib.decDigits u := by
  induction hn : l.length using Nat.strongRecOn generalizing l with
  | _ n ih =>
    intro u hd hh hs
    rcases List.eq_nil_or_concat l with rfl | ⟨r, c, rfl⟩
    · obtain ⟨_, _, h, _⟩ := hh
      cases h
    · rw [List.concat_eq_append] at *
      have hc := hd c (by simp)
      rw [spell_append] at hs
      have hs' : spell 0 r * 10 + (c.toNat - 48) = u := hs
      have hcc : UInt8.ofNat (48 + (c.toNat - 48)) = c := by
        rw [show 48 + (c.toNat - 48) = c.toNat by omega]
        simp
      rcases List.eq_nil_or_concat r with rfl | ⟨r', c', rfl⟩
      · have e : u = c.toNat - 48 := by rw [← hs']; show 0 * 10 + _ = _; omega
        rw [Lib.decDigits, dif_pos (by omega), e, hcc]
        rfl
      · rw [List.concat_eq_append] at *
        have hr := ih (r' ++ [c']).length (by rw [← hn]; simp) (r' ++ [c']) rfl (spell 0 (r' ++ [c'])) (fun x hx => hd x (List.mem_append_left _ hx)) (by
          obtain ⟨a, b, e, h1⟩ := hh
          cases h : (r' ++ [c']) with
          | nil => simp at h
          | cons a' b' =>
            rw [h] at e
            injection e with e _
            exact ⟨a', b', rfl, by rw [e]; exact h1⟩) rfl
        have hpos : 1 ≤ spell 0 (r' ++ [c']) := by
          rcases Nat.eq_zero_or_pos (spell 0 (r' ++ [c'])) with h0 | h0
          · rw [h0] at hr
            obtain ⟨a, b, e, h1⟩ := hh
            rw [hr] at e
            have : Lib.decDigits 0 = [48] := by decide +kernel
            rw [this] at e
            injection e with e _
            rw [← e] at h1
            exact absurd h1 (by decide)
          · exact h0
        rw [Lib.decDigits, dif_neg (by omega), show u / 10 = spell 0 (r' ++ [c']) by omega, show u % 10 = c.toNat - 48 by omega, hcc, ← hr]

/-! ### Reverse -/
/-- A block of type T whose first cells are these. -/
def VRow (T : TypeId) (w : World) (g : Nat) (vs : List Value) : Prop := ∃ cur : Array Value, w.heap[g]? = some (.cells cur T (0, 0)) ∧ cur.toList.take vs.length = vs
section
variable {T : TypeId} {w w1 : World} {g : Nat} {vs : List Value}
theorem VRow.lt (h : VRow T w g vs) : g < w.heap.size := by
  obtain ⟨cur, hc, _⟩ := h
  exact (Array.getElem?_eq_some_iff.1 hc).1
theorem VRow.of_block (h : VRow T w g vs) (hb : w1.heap[g]? = w.heap[g]?) : VRow T w1 g vs := by
  obtain ⟨cur, hc, ht⟩ := h
  exact ⟨cur, hb.trans hc, ht⟩
theorem VRow.nb (h : VRow T w g vs) (hb : Below w.heap.size w w1) : VRow T w1 g vs := h.of_block (hb.block g h.lt)
theorem VRow.kp {S : Nat → Prop} (h : VRow T w g vs) (hk : Kp S w w1) (hs : ¬ S g) : VRow T w1 g vs := h.of_block (hk.block g h.lt hs)
theorem VRow.cell (h : VRow T w g vs) {i : Nat} (hi : i < vs.length) : w.cell? ⟨g, i, none⟩ = vs[i]? := by
  obtain ⟨cur, hc, ht⟩ := h
  have h1 : (cur.toList.take vs.length)[i]? = vs[i]? := by rw [ht]
  rw [List.getElem?_take_of_lt hi] at h1
  simp only [World.cell?, hc]
  simp only [Option.isSome_none, Bool.false_eq_true, if_false]
  rw [← Array.getElem?_toList, h1]
theorem VRow.frozen (h : VRow T w g vs) (i : Nat) : w.frozen? ⟨g, i, none⟩ = false := by
  obtain ⟨cur, hc, _⟩ := h
  simp [World.frozen?, hc]
theorem VRow.set (h : VRow T w g vs) (i : Nat) (v : Value) : VRow T (w.setCell ⟨g, i, none⟩ v) g (vs.set i v) := by
  obtain ⟨cur, hc, ht⟩ := h
  refine ⟨cur.setIfInBounds i v, ?_, ?_⟩
  · simp [World.setCell, Array.getElem?_modify, hc]
  · rw [Array.toList_setIfInBounds, List.length_set]
    conv => rhs; rw [← ht]
    rw [List.take_set]
end
/-- Both ends have been exchanged, up to place i. -/
def Rev (i : Nat) (l0 l : List Int) : Prop := l.length = l0.length ∧ ∀ t, t < l0.length → l.getD t 0 = if t < i ∨ l0.length - i ≤ t then l0.getD (l0.length - 1 - t) 0 else l0.getD t 0
theorem Rev.start (l : List Int) : Rev 0 l l := ⟨rfl, fun t ht => by rw [if_neg (by omega)]⟩
theorem Rev.step {i : Nat} {l0 l : List Int} (h : Rev i l0 l) (hi : 2 * i + 1 < l0.length) :
    Rev (i + 1) l0 ((l.set i (l0.getD (l0.length - 1 - i) 0)).set (l0.length - 1 - i) (l0.getD i 0)) := by
  refine ⟨by simp [h.1], fun t ht => ?_⟩
  by_cases h1 : t = l0.length - 1 - i
  · subst h1
    rw [getD_set_eq _ (by rw [List.length_set, h.1]; exact ht), if_pos (by omega)]
    congr 1
    omega
  · rw [getD_set_ne _ (by omega)]
    by_cases h2 : t = i
    · subst h2
      rw [getD_set_eq _ (by rw [h.1]; exact ht), if_pos (by omega)]
    · rw [getD_set_ne _ (by omega), h.2 t ht]
      by_cases h3 : t < i ∨ l0.length - i ≤ t
      · rw [if_pos h3, if_pos (by omega)]
      · rw [if_neg h3, if_neg (by omega)]
theorem Rev.done {i : Nat} {l0 l : List Int} (h : Rev i l0 l) (hi : l0.length ≤ 2 * i + 1) : l = l0.reverse := by
  apply List.ext_getElem (by simp [h.1])
  intro t h1 h2
  have ht : t < l0.length := by rw [← h.1]; exact h1
  have h3 := h.2 t ht
  rw [List.getElem_reverse]
  rw [List.getD_eq_getElem?_getD, List.getElem?_eq_getElem h1] at h3
  simp only [Option.getD_some] at h3
  rw [h3]
  by_cases h4 : t < i ∨ l0.length - i ≤ t
  · rw [if_pos h4, List.getD_eq_getElem?_getD, List.getElem?_eq_getElem (by omega)]
    rfl
  · rw [if_neg h4]
    rw [List.getD_eq_getElem?_getD, List.getElem?_eq_getElem ht]
    simp only [Option.getD_some]
    congr 1
    omega

set_option maxRecDepth 100000 in
set_option maxHeartbeats 1600000 in
theorem reverse_any (w : World) (g n c : Nat) (l : List Int) (hl : l.length = n) (hr : VRow 5 w g (U8 l)) (hn : n ≤ 100000000000000) :
    Calls Tryz.prog 156 #[.slice (some ⟨g, 0, none⟩) n c] w fun e w' => e = .returned (.tuple #[]) ∧ VRow 5 w' g (U8 l.reverse) ∧ Kp (· = g) w w' := by
  have HL := Lib.hid hl
  clear hl
  go_enter Tryz.func156, Tryz.ntmps156
  go_wp2_with fail
  go_loopw [2, 3] (fun si sj wr => ∃ (i : Nat) (l1 : List Int), 2 * i ≤ n + 1 ∧ si = .int .i64 i ∧ sj = .int .i64 ((n : Int) - 1 - (i : Int)) ∧ VRow 5 wr g (U8 l1) ∧ Hid (Rev i l l1) ∧ Kp (· = g) w wr) (fun si _ _ => n - (intOf si).toNat)
  case atStart => exact ⟨0, l, by omega, rfl, by simp, hr, Rev.start l, Kp.refl _ _⟩
  case round =>
    obtain ⟨i, l1, hi, rfl, rfl, hv, hrev, hk⟩ := hrel
    by_cases hlt : 2 * i + 1 < n
    · have e1 : (n : Int) - 1 - (i : Int) = ((n - 1 - i : Nat) : Int) := by omega
      obtain ⟨j, hj⟩ : ∃ j, j = n - 1 - i := ⟨_, rfl⟩
      rw [e1, ← hj]
      have hij : i < j := by omega
      have hjn : j < n := by omega
      have c1 := hv.cell (i := i) (by have := hrev.out.1; have := HL.out; simp [U8]; omega)
      have c2 := hv.cell (i := j) (by have := hrev.out.1; have := HL.out; simp [U8]; omega)
      have f1 := hv.frozen i
      have f2 := hv.frozen j
      have g1 : (U8 l1)[i]? = some (.int .u8 (l.getD i 0)) := by
        have h1 := hrev.out.2 i (by rw [HL.out]; omega)
        rw [if_neg (by rw [HL.out]; omega)] at h1
        rw [← h1]
        simp [U8, List.getD_eq_getElem?_getD, List.getElem?_eq_getElem (show i < l1.length by have := hrev.out.1; have := HL.out; omega)]
      have g2 : (U8 l1)[j]? = some (.int .u8 (l.getD j 0)) := by
        have h1 := hrev.out.2 j (by rw [HL.out]; omega)
        rw [if_neg (by rw [HL.out]; omega)] at h1
        rw [← h1]
        simp [U8, List.getD_eq_getElem?_getD, List.getElem?_eq_getElem (show j < l1.length by have := hrev.out.1; have := HL.out; omega)]
      rw [g1] at c1
      rw [g2] at c2
      obtain ⟨x, hx⟩ : ∃ x, x = l.getD i 0 := ⟨_, rfl⟩
      obtain ⟨y, hy⟩ : ∃ y, y = l.getD j 0 := ⟨_, rfl⟩
      rw [← hx] at c1
      rw [← hy] at c2
      have hst : Hid (Rev (i + 1) l ((l1.set i y).set j x)) := by
        have := hrev.out.step (by rw [HL.out]; exact hlt)
        rw [HL.out, ← hj, ← hx, ← hy] at this
        exact this
      have HJ := Lib.hid hj
      have HX := Lib.hid hx
      have HY := Lib.hid hy
      clear hj hx hy g1 g2 e1
      go_wp2_with fail
      go_region
      go_wp2
      go_roundw
      case rel =>
        have h1 : VRow 5 ((wr.setCell ⟨g, i, none⟩ (.int .u8 y)).setCell ⟨g, j, none⟩ (.int .u8 x)) g (U8 ((l1.set i y).set j x)) := by
          have := (hv.set i (.int .u8 y)).set j (.int .u8 x)
          rw [show (U8 l1).set i (.int .u8 y) = U8 (l1.set i y) from by simp [U8, List.map_set], show (U8 (l1.set i y)).set j (.int .u8 x) = U8 ((l1.set i y).set j x) from by simp [U8, List.map_set]] at this
          exact this
        exact ⟨i + 1, _, by omega, by go_num, by have := HJ.out; congr 1; omega, h1.of_block rfl, hst, ((hk.set (p := ⟨g, i, none⟩) rfl _).set (p := ⟨g, j, none⟩) rfl _).nb (nb_drew _)⟩
      case measure => simp [intOf]; omega
    · have hlt' : ¬ (i : Int) < (n : Int) - 1 - (i : Int) := by omega
      have HE : Hid (l1 = l.reverse) := hrev.out.done (by rw [HL.out]; omega)
      go_wp2_with fail
      go_end0
      exact ⟨rfl, by rw [← HE.out]; exact hv, hk⟩
end Go.Proofs.YtmfkpmepgbjmkaaGreatDoor
