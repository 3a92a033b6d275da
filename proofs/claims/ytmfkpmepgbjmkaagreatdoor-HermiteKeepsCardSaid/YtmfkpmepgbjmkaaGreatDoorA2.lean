/-
  PLAIN FACTS ON NUMERALS: the text of an integer, its sign, what parsing it gives.
  WORDS FOR MEMORY, and the library's contracts said with them: what the laid variables hold (GOk), what a call keeps (Kp), a row of integers' texts in a block (Row).
  WALKS: package whole's functions that look at signs alone: split, join, Sign, Neg, Abs; Of, Small, little.
  WALKS: whole.Small and whole.little: a numeral as an int.
  WALKS: strconv.FormatUint(u, 10), by the shelf's contracts for its callees (after the shelf's own walk of FormatInt); decimal.Of, decimal.Small, decimal.both.
  WALKS: decimal.pieces: trim, compare.
  PLAIN MATHEMATICS: numbers in digits to the base 1000000000, the least significant one first.
-/
import Derived.Lib.ItoaNum
import Derived.Lib.AtoiAllCases
import Derived.Lib.ParseIntBTie
import Derived.Test.YtmfkpmepgbjmkaaGreatDoorShelf
import Derived.WalkKit
import Derived.WalkLawsBesides
import Derived.WalkSpells
import Derived.WalkSmall
import Derived.Deep.RegionHeld3
import Derived.Deep.DeepCutAuto
import Derived.Deep.LoopGhost
import Derived.Deep.QuietTactic
import Derived.BigQuiet
import Derived.KernelRfl
import Derived.Lib.Hide
import Derived.Lib.LaidTab
import Derived.Lib.SmallJoins
import Derived.Lib.AtoiErrMem
set_option linter.unusedVariables false
set_option linter.unusedSimpArgs false
namespace Go.Proofs.YtmfkpmepgbjmkaaGreatDoor
open Go.Lib

/-- The text of an integer. -/
def tx (a : Int) : ByteArray := ⟨(itoa a).toArray⟩
/-- The text of a natural number. -/
def tn (u : Nat) : ByteArray := ⟨(decDigits u).toArray⟩

theorem tx_nat (u : Nat) : tx (u : Int) = tn u := by
  unfold tx tn itoa
  rw [if_neg (by omega)]
  simp
theorem tx_neg (u : Nat) (h : 0 < u) : itoa (-(u : Int)) = 45 :: decDigits u := by
  unfold itoa
  rw [if_pos (by omega)]
  simp

theorem byte_toNat (c : Nat) (h : c < 10) : (UInt8.ofNat (48 + c)).toNat = 48 + c := by
  rw [UInt8.toNat_ofNat']
  omega

/-- A numeral is not empty, and all of its bytes are digits. -/
theorem dec_ne (u : Nat) : decDigits u ≠ [] := by
  rw [decDigits]
  split <;> simp
theorem dec_digit (u : Nat) : ∀ c ∈ decDigits u, 48 ≤ c.toNat ∧ c.toNat ≤ 57 := by
  induction u using Nat.strongRecOn with
  | _ u ih =>
    intro c hc
    rw [decDigits] at hc
    split at hc
    · rw [List.mem_singleton.1 hc, byte_toNat u (by omega)]
      omega
    · rcases List.mem_append.1 hc with hc | hc
      · exact ih (u / 10) (by omega) c hc
      · rw [List.mem_singleton.1 hc, byte_toNat _ (by omega)]
        omega

/-- The number that digits spell, behind what the digits before spell. -/
def spell (acc : Nat) : List UInt8 → Nat
  | [] => acc
  | c :: r => spell (acc * 10 + (c.toNat - 48)) r
theorem spell_append (l r : List UInt8) : ∀ acc, spell acc (l ++ r) = spell (spell acc l) r := by
  induction l with
  | nil => intro acc; rfl
  | cons c l ih => intro acc; exact ih _
theorem spell_dec (u : Nat) : spell 0 (decDigits u) = u := by
  induction u using Nat.strongRecOn with
  | _ u ih =>
    rw [decDigits]
    split
    · show 0 * 10 + ((UInt8.ofNat (48 + u)).toNat - 48) = u
      rw [byte_toNat u (by omega)]
      omega
    · rw [spell_append, ih (u / 10) (by omega)]
      show u / 10 * 10 + ((UInt8.ofNat (48 + u % 10)).toNat - 48) = u
      rw [byte_toNat _ (by omega)]
      omega
theorem dec_inj {u v : Nat} (h : decDigits u = decDigits v) : u = v := by
  rw [← spell_dec u, ← spell_dec v, h]
theorem spell_ge (l : List UInt8) : ∀ acc, acc ≤ spell acc l := by
  induction l with
  | nil => intro acc; exact Nat.le_refl _
  | cons c l ih =>
    intro acc
    have := ih (acc * 10 + (c.toNat - 48))
    show acc ≤ spell (acc * 10 + (c.toNat - 48)) l
    omega
/-- What parsing digits gives. -/
theorem parse_spell (l : List UInt8) (hd : ∀ c ∈ l, 48 ≤ c.toNat ∧ c.toNat ≤ 57) : ∀ acc, acc < 18446744073709551616 → parseUint10 acc l = if spell acc l < 18446744073709551616 then .ok (spell acc l) else .range := by
  induction l with
  | nil =>
    intro acc h
    show NumEnd.ok acc = if acc < 18446744073709551616 then NumEnd.ok acc else NumEnd.range
    rw [if_pos h]
  | cons c l ih =>
    intro acc h
    have hc := hd c (List.mem_cons_self ..)
    have hg := spell_ge l (acc * 10 + (c.toNat - 48))
    show (if 48 ≤ c.toNat ∧ c.toNat ≤ 57 then if 1844674407370955162 ≤ acc then NumEnd.range else if 18446744073709551616 ≤ acc * 10 + (c.toNat - 48) then NumEnd.range else parseUint10 (acc * 10 + (c.toNat - 48)) l else NumEnd.syntax) = if spell (acc * 10 + (c.toNat - 48)) l < 18446744073709551616 then NumEnd.ok (spell (acc * 10 + (c.toNat - 48)) l) else NumEnd.range
    rw [if_pos hc]
    by_cases h1 : 1844674407370955162 ≤ acc
    · rw [if_pos h1, if_neg (by omega)]
    · rw [if_neg h1]
      by_cases h2 : 18446744073709551616 ≤ acc * 10 + (c.toNat - 48)
      · rw [if_pos h2, if_neg (by omega)]
      · rw [if_neg h2]
        exact ih (fun c hc => hd c (List.mem_cons_of_mem _ hc)) _ (by omega)
theorem parseMag_dec (u : Nat) : parseMag (decDigits u) = if u < 18446744073709551616 then .ok u else .range := by
  unfold parseMag
  rw [if_neg (dec_ne u), parse_spell _ (dec_digit u) 0 (by omega), spell_dec]

theorem dec_head (u : Nat) : ∃ c r, decDigits u = c :: r ∧ 48 ≤ c.toNat ∧ c.toNat ≤ 57 := by
  cases h : decDigits u with
  | nil => exact absurd h (dec_ne u)
  | cons c r =>
    have := dec_digit u c (by rw [h]; exact List.mem_cons_self ..)
    exact ⟨c, r, rfl, this⟩
theorem dec_head_pos (u : Nat) (hu : 0 < u) : ∃ c r, decDigits u = c :: r ∧ 49 ≤ c.toNat ∧ c.toNat ≤ 57 := by
  induction u using Nat.strongRecOn with
  | _ u ih =>
    rw [decDigits]
    split
    · exact ⟨_, _, rfl, by rw [byte_toNat u (by omega)]; omega, by rw [byte_toNat u (by omega)]; omega⟩
    · obtain ⟨c, r, e, h1, h2⟩ := ih (u / 10) (by omega) (by omega)
      exact ⟨c, r ++ [UInt8.ofNat (48 + u % 10)], by rw [e]; rfl, h1, h2⟩

/-- strconv.Atoi of an int's numeral. -/
theorem atoi_itoa (a : Int) (h0 : -9223372036854775808 ≤ a) (h1 : a ≤ 9223372036854775807) : atoiAll (itoa a) = .ok a := by
  unfold itoa
  by_cases h : a < 0
  · rw [if_pos h, atoiAll_minus, parseMag_dec, if_pos (by omega)]
    show (if 9223372036854775808 < a.natAbs then NumEnd.range else NumEnd.ok (-(a.natAbs : Int))) = NumEnd.ok a
    rw [if_neg (by omega)]
    congr 1
    omega
  · rw [if_neg h]
    obtain ⟨c, r, e, hc1, hc2⟩ := dec_head a.toNat
    rw [e, atoiAll_plain c r (by omega) (by omega), ← e, parseMag_dec, if_pos (by omega)]
    show (if 9223372036854775808 ≤ a.toNat then NumEnd.range else NumEnd.ok (a.toNat : Int)) = NumEnd.ok a
    rw [if_neg (by omega)]
    congr 1
    omega
/-- .. of a greater number. -/
theorem atoi_far (a : Int) (h : a < -9223372036854775808 ∨ 9223372036854775807 < a) : atoiAll (itoa a) = .range := by
  unfold itoa
  by_cases hn : a < 0
  · rw [if_pos hn, atoiAll_minus, parseMag_dec]
    by_cases hu : a.natAbs < 18446744073709551616
    · rw [if_pos hu]
      show (if 9223372036854775808 < a.natAbs then NumEnd.range else NumEnd.ok (-(a.natAbs : Int))) = NumEnd.range
      rw [if_pos (by omega)]
    · rw [if_neg hu]
      rfl
  · rw [if_neg hn]
    obtain ⟨c, r, e, hc1, hc2⟩ := dec_head a.toNat
    rw [e, atoiAll_plain c r (by omega) (by omega), ← e, parseMag_dec]
    by_cases hu : a.toNat < 18446744073709551616
    · rw [if_pos hu]
      show (if 9223372036854775808 ≤ a.toNat then NumEnd.range else NumEnd.ok (a.toNat : Int)) = NumEnd.range
      rw [if_pos (by omega)]
    · rw [if_neg hu]
      rfl

theorem tx_list (a : Int) : (tx a).data.toList = itoa a := rfl
theorem tx_toList (a : Int) : (tx a).toList = itoa a := by
  rw [ByteArray.toList_eq]
  rfl
theorem itoa_inj {a b : Int} (h : itoa a = itoa b) : a = b := by
  unfold itoa at h
  by_cases ha : a < 0 <;> by_cases hb : b < 0 <;> simp only [ha, hb, if_true, if_false] at h
  · injection h with _ h
    have := dec_inj h
    omega
  · obtain ⟨c, r, e, h1, h2⟩ := dec_head b.toNat
    rw [e] at h
    injection h with h _
    rw [← h] at h1
    exact absurd h1 (by decide)
  · obtain ⟨c, r, e, h1, h2⟩ := dec_head a.toNat
    rw [e] at h
    injection h with h _
    rw [h] at h1
    exact absurd h1 (by decide)
  · have := dec_inj h
    omega
theorem tx_inj {a b : Int} : tx a = tx b ↔ a = b :=
  ⟨fun h => itoa_inj (by rw [← tx_list a, ← tx_list b, h]), fun h => by rw [h]⟩
theorem itoa_zero : itoa 0 = [48] := by decide +kernel
theorem itoa_one : itoa 1 = [49] := by decide +kernel
/-- Is it 0? As the walk asks. -/
theorem tx_eq_zero (a : Int) : ((tx a).toList == [48]) = decide (a = 0) := by
  rw [tx_toList, Bool.eq_iff_iff, beq_iff_eq, decide_eq_true_eq, ← itoa_zero]
  exact ⟨itoa_inj, fun h => by rw [h]⟩
theorem tx_eq_one (a : Int) : ((tx a).toList == [49]) = decide (a = 1) := by
  rw [tx_toList, Bool.eq_iff_iff, beq_iff_eq, decide_eq_true_eq, ← itoa_one]
  exact ⟨itoa_inj, fun h => by rw [h]⟩
theorem tx_eq (a b : Int) : ((tx a).toList == (tx b).toList) = decide (a = b) := by
  rw [tx_toList, tx_toList, Bool.eq_iff_iff, beq_iff_eq, decide_eq_true_eq]
  exact ⟨itoa_inj, fun h => by rw [h]⟩

/-- A number's size in digits. -/
theorem nDigits_le (k u : Nat) (h : u < 10 ^ k) (hk : 1 ≤ k) : nDigits u ≤ k := by
  induction k generalizing u with
  | zero => omega
  | succ k ih =>
    by_cases hu : u < 10
    · rw [nDigits_small hu]
      omega
    · rw [nDigits_big hu]
      have hk' : 1 ≤ k := by
        rcases Nat.eq_zero_or_pos k with h0 | h0
        · subst h0; simp at h; omega
        · exact h0
      have := ih (u / 10) (by rw [Nat.pow_succ] at h; omega) hk'
      omega
theorem tx_size (a : Int) : (tx a).size = (itoa a).length := by
  show (itoa a).toArray.size = _
  simp
theorem tn_size (u : Nat) : (tn u).size = nDigits u := by
  show (decDigits u).toArray.size = _
  rw [List.size_toArray, decDigits_length]
end Go.Proofs.YtmfkpmepgbjmkaaGreatDoor

namespace Go.Proofs.YtmfkpmepgbjmkaaGreatDoor
open Go.RowKit

/-! ### The laid variables -/
structure GOk (w : World) : Prop where
  tab : Lib.TabIs Tryz.prog w "internal/strconv.uint64pow10" .u64 Lib.pow10Tab
  range : ∃ tp p, w.var? Tryz.prog "strconv.ErrRange" = some #[.iface tp p]
  syn : ∃ tp p, w.var? Tryz.prog "strconv.ErrSyntax" = some #[.iface tp p]

theorem var_lt {w : World} {n : String} {cs : Array Value} (hv : w.var? Tryz.prog n = some cs) : ∃ g, Tryz.prog.globalNamed n = some g ∧ g < w.heap.size := by
  unfold World.var? at hv
  cases hg : Tryz.prog.globalNamed n with
  | none => rw [hg] at hv; cases hv
  | some g =>
    refine ⟨g, rfl, ?_⟩
    rw [hg] at hv
    simp only [Option.bind_some] at hv
    rcases Nat.lt_or_ge g w.heap.size with h | h
    · exact h
    · rw [Array.getElem?_eq_none h] at hv
      cases hv
theorem var_nb {w w' : World} {n : String} {cs : Array Value} (hb : Below w.heap.size w w') (hv : w.var? Tryz.prog n = some cs) : w'.var? Tryz.prog n = some cs := by
  obtain ⟨g, hg, hlt⟩ := var_lt hv
  exact var?_below hb hg hlt hv
theorem GOk.below {w w' : World} (h : GOk w) (hb : Below w.heap.size w w') : GOk w' := by
  obtain ⟨t, ⟨a, b, r⟩, ⟨c, d, s⟩⟩ := h
  exact ⟨var_nb hb t, ⟨a, b, var_nb hb r⟩, ⟨c, d, var_nb hb s⟩⟩
theorem GOk.drew {w : World} (h : GOk w) : GOk w.drew := h.below ⟨rfl, rfl, rfl, Nat.le_refl _, fun _ _ => rfl⟩

/-! ### What a call keeps -/
theorem nb_refl (w : World) : Below w.heap.size w w := Below.refl _ _
theorem nb_trans {w w1 w2 : World} (h : Below w.heap.size w w1) (h' : Below w1.heap.size w1 w2) : Below w.heap.size w w2 :=
  h.trans (h'.mono h.size)
theorem nb_drew (w : World) : Below w.heap.size w w.drew := ⟨rfl, rfl, rfl, Nat.le_refl _, fun _ _ => rfl⟩
theorem nb_drewN (w : World) (n : Nat) : Below w.heap.size w (w.drewN n) := ⟨rfl, rfl, rfl, Nat.le_refl _, fun _ _ => rfl⟩
theorem nb_alloc (w : World) (o : Obj) : Below w.heap.size w (w.alloc o) := (Below.refl _ _).alloc (Nat.le_refl _) o
theorem cellB {w w1 : World} {a : Addr} {v : Value} (hb : Below w.heap.size w w1) (hc : w.cell? a = some v) : w1.cell? a = some v := (hb.cell (World.block_lt_of_cell? w a hc)).trans hc
theorem frozenB {w w1 : World} {a : Addr} {v : Value} (hb : Below w.heap.size w w1) (hc : w.cell? a = some v) (hf : w.frozen? a = false) : w1.frozen? a = false := (hb.frozen (World.block_lt_of_cell? w a hc)).trans hf

/-- All but the blocks of S is as it was. -/
structure Kp (S : Nat → Prop) (w w' : World) : Prop where
  os : w'.os = w.os
  tape : w'.tape = w.tape
  output : w'.output = w.output
  size : w.heap.size ≤ w'.heap.size
  block : ∀ i, i < w.heap.size → ¬ S i → w'.heap[i]? = w.heap[i]?
theorem Kp.refl (S : Nat → Prop) (w : World) : Kp S w w := ⟨rfl, rfl, rfl, Nat.le_refl _, fun _ _ _ => rfl⟩
theorem Kp.trans {S : Nat → Prop} {w w1 w2 : World} (h : Kp S w w1) (h' : Kp S w1 w2) : Kp S w w2 :=
  ⟨h'.os.trans h.os, h'.tape.trans h.tape, h'.output.trans h.output, Nat.le_trans h.size h'.size, fun i hi hs => (h'.block i (Nat.lt_of_lt_of_le hi h.size) hs).trans (h.block i hi hs)⟩
theorem Kp.mono {S S' : Nat → Prop} {w w1 : World} (h : Kp S w w1) (hs : ∀ i, S i → S' i) : Kp S' w w1 := ⟨h.os, h.tape, h.output, h.size, fun i hi hn => h.block i hi (fun h' => hn (hs i h'))⟩
theorem Kp.of_below {S : Nat → Prop} {w w1 : World} (h : Below w.heap.size w w1) : Kp S w w1 := ⟨h.os, h.tape, h.output, h.size, fun i hi _ => h.block i hi⟩
/-- What S holds of what was made since: it does not matter. -/
theorem Kp.since {S : Nat → Prop} {w w1 w2 : World} (h : Kp S w w1) (h' : Kp (fun i => S i ∨ w.heap.size ≤ i) w1 w2) : Kp S w w2 :=
  ⟨h'.os.trans h.os, h'.tape.trans h.tape, h'.output.trans h.output, Nat.le_trans h.size h'.size, fun i hi hs => (h'.block i (Nat.lt_of_lt_of_le hi h.size) (fun hx => by rcases hx with hx | hx; exact hs hx; omega)).trans (h.block i hi hs)⟩
theorem Kp.below {S : Nat → Prop} {w w1 : World} {B : Nat} (h : Kp S w w1) (hB : B ≤ w.heap.size) (hs : ∀ i, S i → B ≤ i) : Below B w w1 :=
  ⟨h.os, h.tape, h.output, h.size, fun i hi => h.block i (Nat.lt_of_lt_of_le hi hB) (fun hx => by have := hs i hx; omega)⟩
theorem Kp.set {S : Nat → Prop} {w w1 : World} (h : Kp S w w1) {p : Addr} (hp : S p.block) (v : Value) : Kp S w (w1.setCell p v) :=
  ⟨h.os, h.tape, h.output, by simpa [World.setCell] using h.size, fun i hi hs => (Below.heap_setCell w1 p v i (fun e => hs (e ▸ hp))).trans (h.block i hi hs)⟩
theorem Kp.nb {S : Nat → Prop} {w w1 w2 : World} (h : Kp S w w1) (h' : Below w1.heap.size w1 w2) : Kp S w w2 := h.trans (Kp.of_below h')
theorem Kp.cell {S : Nat → Prop} {w w1 : World} (h : Kp S w w1) {a : Addr} {v : Value} (hc : w.cell? a = some v) (hs : ¬ S a.block) : w1.cell? a = some v :=
  (World.cell?_of_block (h.block _ (World.block_lt_of_cell? w a hc) hs)).trans hc
theorem Kp.frozen {S : Nat → Prop} {w w1 : World} (h : Kp S w w1) {a : Addr} {b : Bool} (hc : a.block < w.heap.size) (hf : w.frozen? a = b) (hs : ¬ S a.block) : w1.frozen? a = b :=
  (World.frozen?_of_block (h.block _ hc hs)).trans hf
theorem GOk.kp {S : Nat → Prop} {w w' : World} (h : GOk w) (hk : Kp S w w') (hs : ∀ n g, (n = "internal/strconv.uint64pow10" ∨ n = "strconv.ErrRange" ∨ n = "strconv.ErrSyntax") → Tryz.prog.globalNamed n = some g → ¬ S g) : GOk w' := by
  have one : ∀ n cs, (n = "internal/strconv.uint64pow10" ∨ n = "strconv.ErrRange" ∨ n = "strconv.ErrSyntax") → w.var? Tryz.prog n = some cs → w'.var? Tryz.prog n = some cs := by
    intro n cs hn hv
    obtain ⟨g, hg, hlt⟩ := var_lt hv
    have hb := hk.block g hlt (hs n g hn hg)
    unfold World.var? at hv ⊢
    simp only [hg, Option.bind_some] at hv ⊢
    rw [hb]
    exact hv
  obtain ⟨t, ⟨a, b, r⟩, ⟨c, d, s⟩⟩ := h
  exact ⟨one _ _ (.inl rfl) t, ⟨a, b, one _ _ (.inr (.inl rfl)) r⟩, ⟨c, d, one _ _ (.inr (.inr rfl)) s⟩⟩

/-! ### A row of integers' texts at the head of a block -/
def strs (xs : List Int) : List Value := xs.map fun x => .string (tx x)
def Row (w : World) (g : Nat) (xs : List Int) : Prop := ∃ cur : Array Value, w.heap[g]? = some (.cells cur 38 (0, 0)) ∧ cur.toList.take xs.length = strs xs
theorem Row.lt {w : World} {g : Nat} {xs : List Int} (h : Row w g xs) : g < w.heap.size := by
  obtain ⟨cur, hc, _⟩ := h
  exact (Array.getElem?_eq_some_iff.1 hc).1
theorem Row.of_block {w w1 : World} {g : Nat} {xs : List Int} (h : Row w g xs) (hb : w1.heap[g]? = w.heap[g]?) : Row w1 g xs := by
  obtain ⟨cur, hc, ht⟩ := h
  exact ⟨cur, hb.trans hc, ht⟩
theorem Row.kp {S : Nat → Prop} {w w1 : World} {g : Nat} {xs : List Int} (h : Row w g xs) (hk : Kp S w w1) (hs : ¬ S g) : Row w1 g xs := h.of_block (hk.block g h.lt hs)
theorem Row.nb {w w1 : World} {g : Nat} {xs : List Int} (h : Row w g xs) (hb : Below w.heap.size w w1) : Row w1 g xs := h.of_block (hb.block g h.lt)
theorem Row.cell {w : World} {g : Nat} {xs : List Int} (h : Row w g xs) {i : Nat} (hi : i < xs.length) : w.cell? ⟨g, i, none⟩ = some (.string (tx (xs.getD i 0))) := by
  obtain ⟨cur, hc, ht⟩ := h
  have h1 : (cur.toList.take xs.length)[i]? = (strs xs)[i]? := by rw [ht]
  rw [List.getElem?_take_of_lt hi] at h1
  simp only [World.cell?, hc]
  simp only [Option.isSome_none, Bool.false_eq_true, if_false]
  rw [← Array.getElem?_toList, h1]
  simp [strs, List.getD_eq_getElem?_getD, List.getElem?_eq_getElem hi]
theorem Row.frozen {w : World} {g : Nat} {xs : List Int} (h : Row w g xs) (i : Nat) : w.frozen? ⟨g, i, none⟩ = false := by
  obtain ⟨cur, hc, _⟩ := h
  simp [World.frozen?, hc]
theorem Row.set {w : World} {g : Nat} {xs : List Int} (h : Row w g xs) (i : Nat) (z : Int) : Row (w.setCell ⟨g, i, none⟩ (.string (tx z))) g (xs.set i z) := by
  obtain ⟨cur, hc, ht⟩ := h
  refine ⟨cur.setIfInBounds i (.string (tx z)), ?_, ?_⟩
  · simp [World.setCell, Array.getElem?_modify, hc]
  · rw [Array.toList_setIfInBounds, List.length_set]
    rw [show strs (xs.set i z) = (strs xs).set i (.string (tx z)) from by simp [strs, List.map_set], ← ht, List.take_set]

/-! ### The library -/
theorem nb_grow (w : World) (k : Nat) (os : Array Obj) : Below w.heap.size w (Sort.grow (w.drewN k) os) :=
  ⟨rfl, rfl, rfl, by show w.heap.size ≤ (w.heap ++ os).size; simp, fun i hi => by show (w.heap ++ os)[i]? = w.heap[i]?; rw [Array.getElem?_append_left hi]⟩
/-- An int. -/
def I64 (n : Int) : Prop := -9223372036854775808 ≤ n ∧ n ≤ 9223372036854775807

theorem itoa_any (n : Int) (h : I64 n) (w : World) (hG : GOk w) :
    Calls Tryz.prog 56 #[.int .i64 n] w fun e w' => e = .returned (.string (tx n)) ∧ Below w.heap.size w w' :=
  (Tryz.strconv_Itoa n h.1 h.2 w hG.tab).mono fun e w' ⟨he, k, os, hw⟩ => ⟨he, hw ▸ nb_grow w k os⟩
theorem atoi_any (n : Int) (h : I64 n) (hs : (tx n).size ≤ 1000) (w : World) :
    Calls Tryz.prog 129 #[.string (tx n)] w fun e w' => e = .returned (.tuple #[.int .i64 n, .nilIface]) ∧ Below w.heap.size w w' :=
  (Tryz.strconv_Atoi_ok (tx n) (by omega) n (atoi_itoa n h.1 h.2) w).mono fun e w' ⟨he, hw⟩ => ⟨he, by
    rcases hw with rfl | ⟨t, rfl⟩
    · exact nb_refl _
    · exact Lib.bytesWorld_below w _ t⟩
theorem parseInt_ok (n : Int) (h : I64 n) (hs : (tx n).size ≤ 281474976710656) (w : World) :
    Calls Tryz.prog 127 #[.string (tx n), .int .i64 10, .int .i64 64] w fun e w' => e = .returned (.tuple #[.int .i64 n, .nilIface]) ∧ Below w.heap.size w w' :=
  (Tryz.strconv_ParseInt_10_at64_ok (tx n) (by omega) n (by rw [Lib.parseIntB_64]; exact atoi_itoa n h.1 h.2) w).mono fun e w' ⟨he, hw⟩ => ⟨he, by
    rcases hw with rfl | ⟨t, rfl⟩
    · exact nb_refl _
    · exact Lib.bytesWorld_below w _ t⟩
theorem parseInt_far (n : Int) (h : ¬ I64 n) (hs : (tx n).size ≤ 281474976710656) (w : World) (hG : GOk w) :
    Calls Tryz.prog 127 #[.string (tx n), .int .i64 10, .int .i64 64] w fun e w' => ∃ (v : Int) (T : TypeId) (p : Value), e = .returned (.tuple #[.int .i64 v, .iface T p]) ∧ Below w.heap.size w w' := by
  obtain ⟨tp, p, hv⟩ := hG.range
  refine (Tryz.strconv_ParseInt_10_at64_range_var (tx n) hs (by rw [Lib.parseIntB_64]; exact atoi_far n (by unfold I64 at h; omega)) tp p w hv).mono ?_
  rintro e w' ⟨N, he, _, _, hb⟩
  exact ⟨_, _, _, he, hb⟩
end Go.Proofs.YtmfkpmepgbjmkaaGreatDoor

namespace Go.Proofs.YtmfkpmepgbjmkaaGreatDoor
open Go.RowKit

theorem ret_str {a b : ByteArray} (h : a = b) : Ending.returned (.string a) = .returned (.string b) := by rw [h]
theorem ret_int {k : IntKind} {a b : Int} (h : a = b) : Ending.returned (.int k a) = .returned (.int k b) := by rw [h]
theorem bytes_ext {s t : ByteArray} (h : s.data.toList = t.data.toList) : s = t := by
  obtain ⟨⟨a⟩⟩ := s
  obtain ⟨⟨b⟩⟩ := t
  have h' : a = b := h
  rw [h']
/-- A text's first byte, as the walk reads it. -/
theorem first_byte {s : ByteArray} {c : UInt8} {r : List UInt8} (h : s.data.toList = c :: r) : ∃ hp : 0 < s.size, (s[0]'hp).toNat = c.toNat := by
  have hs : s.size = r.length + 1 := by rw [Lib.size_eq, h]; rfl
  refine ⟨by omega, ?_⟩
  rw [Lib.getD_at s 0 (by omega), h]
  rfl
theorem extract_tail {s : ByteArray} {c : UInt8} {r : List UInt8} (h : s.data.toList = c :: r) : s.extract 1 s.size = ⟨r.toArray⟩ := by
  refine bytes_ext ?_
  have hs : s.size = r.length + 1 := by rw [Lib.size_eq, h]; rfl
  rw [Lib.extract_data, h, hs]
  simp
/-- A numeral small enough for memory. -/
def Sz (a : Int) : Prop := (tx a).size ≤ 1000000000000
theorem Sz.le {a : Int} (h : Sz a) : (tx a).size ≤ 9223372036854775807 := by unfold Sz at h; omega
theorem nat_size (a : Int) : (tn a.natAbs).size ≤ (tx a).size ∧ (tx a).size ≤ (tn a.natAbs).size + 1 := by
  rw [tn_size, tx_size]
  unfold Lib.itoa
  split
  · rw [List.length_cons, Lib.decDigits_length]; omega
  · rw [Lib.decDigits_length, show a.toNat = a.natAbs by omega]; omega

theorem split_minus (s : ByteArray) (hp : 0 < s.size) (hb : ((s[0]'hp).toNat : Int) = 45) (hm : s.size ≤ 9223372036854775807) (w : World) :
    Calls Tryz.prog 91 #[.string s] w fun e w' => e = .returned (.tuple #[.bool true, .string (s.extract 1 s.size)]) ∧ Below w.heap.size w w' := by
  have hp' : (0 : Int) < (s.size : Int) := by omega
  have hp1 : 1 ≤ s.size := hp
  go_enter Tryz.func91, Tryz.ntmps91
  go_wp2
  go_quiet (fail)
  go_wp2
  go_ret2
  exact ⟨rfl, nb_drewN _ _⟩
theorem split_plain (s : ByteArray) (hp : 0 < s.size) (hb : ((s[0]'hp).toNat : Int) ≠ 45) (hm : s.size ≤ 9223372036854775807) (w : World) :
    Calls Tryz.prog 91 #[.string s] w fun e w' => e = .returned (.tuple #[.bool false, .string s]) ∧ Below w.heap.size w w' := by
  have hp' : (0 : Int) < (s.size : Int) := by omega
  go_enter Tryz.func91, Tryz.ntmps91
  go_wp2
  go_ret2
  exact ⟨rfl, nb_refl _⟩
theorem tx_minus {a : Int} (ha : a < 0) : (tx a).data.toList = 45 :: Lib.decDigits a.natAbs := by
  rw [tx_list]; unfold Lib.itoa; rw [if_pos ha]
theorem tx_plain {a : Int} (ha : ¬ a < 0) : tx a = tn a.natAbs := by
  rw [← tx_nat]; congr 1; omega
theorem split_any (a : Int) (hz : Sz a) (w : World) :
    Calls Tryz.prog 91 #[.string (tx a)] w fun e w' => e = .returned (.tuple #[.bool (decide (a < 0)), .string (tn a.natAbs)]) ∧ Below w.heap.size w w' := by
  by_cases ha : a < 0
  · have hl := tx_minus ha
    obtain ⟨hp, hb⟩ := first_byte hl
    refine (split_minus (tx a) hp (by rw [hb]; rfl) hz.le w).mono fun e w' ⟨he, hw⟩ => ⟨?_, hw⟩
    rw [he, extract_tail hl, decide_eq_true ha]
    rfl
  · obtain ⟨c, r, hc, h1, h2⟩ := dec_head a.natAbs
    have hl : (tx a).data.toList = c :: r := by rw [tx_plain ha]; exact hc
    obtain ⟨hp, hb⟩ := first_byte hl
    refine (split_plain (tx a) hp (by rw [hb]; omega) hz.le w).mono fun e w' ⟨he, hw⟩ => ⟨?_, hw⟩
    rw [he, decide_eq_false ha, tx_plain ha]

theorem tn_zero (u : Nat) : ((tn u).toList == [48]) = decide (u = 0) := by
  rw [← tx_nat, tx_eq_zero]
  congr 1
  apply propext
  omega
theorem concat_minus (u : Nat) (hu : 0 < u) : (⟨#[45]⟩ : ByteArray) ++ tn u = tx (-(u : Int)) := by
  refine bytes_ext ?_
  rw [tx_list, tx_neg u hu]
  simp [tn]
theorem join_any (n : Bool) (u : Nat) (hz : (tn u).size ≤ 1000000000000) (w : World) :
    Calls Tryz.prog 95 #[.bool n, .string (tn u)] w fun e w' => e = .returned (.string (tx (if n = true then -(u : Int) else u))) ∧ Below w.heap.size w w' := by
  have hz' : 1 + (tn u).size ≤ 9223372036854775807 := by omega
  cases n
  · go_enter Tryz.func95, Tryz.ntmps95
    go_wp2
    go_ret
    exact ⟨ret_str (tx_nat u).symm, nb_refl _⟩
  · by_cases h0 : u = 0
    · subst h0
      have h : ((tn 0).toList == [48]) = true := by rw [tn_zero]; rfl
      go_enter Tryz.func95, Tryz.ntmps95
      go_wp2
      go_ret
      exact ⟨rfl, nb_refl _⟩
    · have h : ((tn u).toList == [48]) = false := by rw [tn_zero, decide_eq_false h0]
      have hc := Lib.hid (concat_minus u (by omega))
      go_enter Tryz.func95, Tryz.ntmps95
      go_wp2
      go_ret
      exact ⟨ret_str hc.out, nb_refl _⟩

theorem sign_any (a : Int) (hz : Sz a) (w : World) :
    Calls Tryz.prog 82 #[.string (tx a)] w fun e w' => e = .returned (.int .i64 a.sign) ∧ Below w.heap.size w w' := by
  have hm := hz.le
  rcases Int.lt_trichotomy a 0 with ha | ha | ha
  · have h : ((tx a).toList == [48]) = false := by rw [tx_eq_zero, decide_eq_false (by omega)]
    obtain ⟨hp, hb⟩ := first_byte (tx_minus ha)
    have hb' : (((tx a)[0]'hp).toNat : Int) = 45 := by rw [hb]; rfl
    have hp' : (0 : Int) < ((tx a).size : Int) := by omega
    have hs := Lib.hid (Int.sign_eq_neg_one_of_neg ha)
    clear hb
    go_enter Tryz.func82, Tryz.ntmps82
    go_wp2
    go_ret
    exact ⟨ret_int hs.out.symm, nb_refl _⟩
  · subst ha
    have h : ((tx 0).toList == [48]) = true := by rw [tx_eq_zero]; rfl
    go_enter Tryz.func82, Tryz.ntmps82
    go_wp2
    go_ret
    exact ⟨rfl, nb_refl _⟩
  · have h : ((tx a).toList == [48]) = false := by rw [tx_eq_zero, decide_eq_false (by omega)]
    obtain ⟨c, r, hc, h1, h2⟩ := dec_head a.natAbs
    obtain ⟨hp, hb⟩ := first_byte (s := tx a) (c := c) (r := r) (by rw [tx_plain (by omega)]; exact hc)
    have hb' : (((tx a)[0]'hp).toNat : Int) ≠ 45 := by rw [hb]; omega
    have hp' : (0 : Int) < ((tx a).size : Int) := by omega
    have hs := Lib.hid (Int.sign_eq_one_of_pos ha)
    clear hb hc
    go_enter Tryz.func82, Tryz.ntmps82
    go_wp2
    go_ret
    exact ⟨ret_int hs.out.symm, nb_refl _⟩

theorem Sz.nat {a : Int} (h : Sz a) : (tn a.natAbs).size ≤ 1000000000000 := by
  have := nat_size a
  unfold Sz at h
  omega
theorem neg_any (a : Int) (hz : Sz a) (w : World) :
    Calls Tryz.prog 124 #[.string (tx a)] w fun e w' => e = .returned (.string (tx (-a))) ∧ Below w.heap.size w w' := by
  have hn := hz.nat
  go_enter Tryz.func124, Tryz.ntmps124
  go_wp2_with (first | (go_at_call 91; refine (split_any a hz _).mono ?_; rintro e w1 ⟨rfl, hb1⟩) | (go_at_call 95; refine (join_any _ _ hn _).mono ?_; rintro e w2 ⟨rfl, hb2⟩))
  all_goals
    go_ret
    exact ⟨ret_str (congrArg tx (by omega)), nb_trans hb1 hb2⟩
theorem abs_any (a : Int) (hz : Sz a) (w : World) :
    Calls Tryz.prog 123 #[.string (tx a)] w fun e w' => e = .returned (.string (tn a.natAbs)) ∧ Below w.heap.size w w' := by
  go_enter Tryz.func123, Tryz.ntmps123
  go_wp2_with (go_at_call 91; refine (split_any a hz _).mono ?_; rintro e w1 ⟨rfl, hb1⟩)
  go_ret
  exact ⟨rfl, hb1⟩
theorem of_any (n : Int) (h : I64 n) (w : World) (hG : GOk w) :
    Calls Tryz.prog 54 #[.int .i64 n] w fun e w' => e = .returned (.string (tx n)) ∧ Below w.heap.size w w' := by
  go_enter Tryz.func54, Tryz.ntmps54
  go_wp2_with (go_at_call 56; refine (itoa_any n h _ hG).mono ?_; rintro e w1 ⟨rfl, hb1⟩)
  go_ret
  exact ⟨rfl, hb1⟩
end Go.Proofs.YtmfkpmepgbjmkaaGreatDoor

namespace Go.Proofs.YtmfkpmepgbjmkaaGreatDoor
open Go.RowKit

theorem small_of_size {a : Int} {k : Nat} (h : (tx a).size ≤ k) : a.natAbs < 10 ^ k := by
  have h1 := (nat_size a).1
  rw [tn_size] at h1
  exact Nat.lt_of_lt_of_le (Lib.lt_pow_nDigits _) (Nat.pow_le_pow_right (by omega) (by omega))
theorem i64_of_size {a : Int} (h : (tx a).size ≤ 18) : I64 a := by
  have := small_of_size h
  unfold I64
  omega
theorem little_long (s : ByteArray) (m : Int) (h : m < (s.size : Int)) (hm : s.size ≤ 9223372036854775807) (w : World) :
    Calls Tryz.prog 90 #[.string s, .int .i64 m] w fun e w' => e = .returned (.tuple #[.int .i64 0, .bool false]) ∧ Below w.heap.size w w' := by
  go_enter Tryz.func90, Tryz.ntmps90
  go_wp2
  go_ret2
  exact ⟨rfl, nb_refl _⟩
theorem little_short (a : Int) (m : Int) (h : ((tx a).size : Int) ≤ m) (hm : m ≤ 18) (w : World) :
    Calls Tryz.prog 90 #[.string (tx a), .int .i64 m] w fun e w' => e = .returned (.tuple #[.int .i64 a, .bool true]) ∧ Below w.heap.size w w' := by
  have hs : (tx a).size ≤ 18 := by omega
  have hi := i64_of_size hs
  have hs' : (tx a).size ≤ 1000 := by omega
  go_enter Tryz.func90, Tryz.ntmps90
  go_wp2_with (go_at_call 129; refine (atoi_any a hi hs' _).mono ?_; rintro e w1 ⟨rfl, hb1⟩)
  go_quiet (fail)
  go_wp2
  go_ret2
  exact ⟨rfl, nb_trans hb1 (nb_drewN _ _)⟩
theorem small_ok (n : Int) (h : I64 n) (hz : Sz n) (w : World) :
    Calls Tryz.prog 85 #[.string (tx n)] w fun e w' => e = .returned (.tuple #[.int .i64 n, .bool true]) ∧ Below w.heap.size w w' := by
  have hs : (tx n).size ≤ 281474976710656 := by unfold Sz at hz; omega
  go_enter Tryz.func85, Tryz.ntmps85
  go_wp2_with (go_at_call 127; refine (parseInt_ok n h hs _).mono ?_; rintro e w1 ⟨rfl, hb1⟩)
  go_ret2
  exact ⟨rfl, hb1⟩
theorem small_far (n : Int) (h : ¬ I64 n) (hz : Sz n) (w : World) (hG : GOk w) :
    Calls Tryz.prog 85 #[.string (tx n)] w fun e w' => e = .returned (.tuple #[.int .i64 0, .bool false]) ∧ Below w.heap.size w w' := by
  have hs : (tx n).size ≤ 281474976710656 := by unfold Sz at hz; omega
  go_enter Tryz.func85, Tryz.ntmps85
  go_wp2_with (go_at_call 127; refine (parseInt_far n h hs _ hG).mono ?_; rintro e w1 ⟨v, T, p, rfl, hb1⟩)
  go_ret2
  exact ⟨rfl, hb1⟩
end Go.Proofs.YtmfkpmepgbjmkaaGreatDoor

namespace Go.Proofs.YtmfkpmepgbjmkaaGreatDoor
open Go.RowKit Go.Sort

set_option maxHeartbeats 6400000 in
set_option maxRecDepth 100000 in
theorem formatUint_inner (u : Nat) (h : u < 18446744073709551616) (w : World) (hG : GOk w) :
    Calls Tryz.prog 170 #[.int .u64 u, .int .i64 10] w fun e w' => e = .returned (.string (tn u)) ∧ Below w.heap.size w w' := by
  by_cases hs : u < 100
  · go_enter Tryz.func170, Tryz.ntmps170
    go_wp2_with (go_at_call 158; refine (Tryz.internal_strconv_small u hs _).mono ?_; rintro e w' ⟨rfl, rfl⟩)
    go_ret
    exact ⟨rfl, nb_refl _⟩
  · have hu1 : 1 ≤ u := by omega
    have hnd20 : Lib.nDigits u ≤ 20 := by have := Lib.numDigits_eq u hu1 h; split at this <;> omega
    have hal : Tryz.prog.arrayLen 196 = 24 := by kernel_rfl
    have hsl1 : ∀ W, (Instr.sliceAt 196 (.pointer (some ⟨w.heap.size, 0, none⟩)) none (some (.int .i64 (Lib.nDigits u : Int))) none).run Tryz.prog W = .ok (.slice (some ⟨w.heap.size, 0, none⟩) (Lib.nDigits u) 24) W := fun W => by
      rw [run_sliceAt_array_h W 196 ⟨w.heap.size, 0, none⟩ (by simp [Program.arrayLen, Program.elem, Tryz.underlying196]) .i64 (Lib.nDigits u : Int) (by omega) (by rw [hal]; omega)]
      go_simp
    have hH0 : Holds (fun (b : UInt8) => Value.int .u8 (b.toNat : Int)) (w.alloc (.cells Lib.zeros24 196)) w.heap.size 0 (Array.replicate (Lib.nDigits u) (0 : UInt8)) := fun j hj => by
      have hj' : j < Lib.nDigits u := by simpa using hj
      refine ⟨?_, ?_⟩
      · rw [World.cell?_alloc_new]
        simp only [Nat.zero_add]
        rw [Lib.zeros24_at j (by omega)]
        simp [hj']
      · exact World.frozen?_alloc_new _ _ _ _
    have hfmt := Tryz.internal_strconv_formatBase10 w.heap.size 0 24 u (Array.replicate (Lib.nDigits u) 0) (w.alloc (.cells Lib.zeros24 196)) hH0 (by rw [Array.size_replicate]; exact Lib.lt_pow_nDigits u) h (by rw [Array.size_replicate]; omega)
    rw [Array.size_replicate] at hfmt
    have HH0 := Lib.hid hH0
    clear hH0 hal
    go_enter Tryz.func170, Tryz.ntmps170
    go_wp2_with (go_at_call 159; refine (Tryz.internal_strconv_numDigits u hu1 h _ (Lib.tabIs_alloc hG.tab _)).mono ?_; rintro e w' ⟨rfl, rfl⟩)
    go_at_call 160
    refine hfmt.mono ?_
    rintro e w' ⟨rfl, k, v', dk, rfl, hF⟩
    have hcv : (convert 147 9 (.slice (some ⟨w.heap.size, 0, none⟩) (Lib.nDigits u) 24)).run Tryz.prog ((putRow (fun (b : UInt8) => Value.int .u8 (b.toNat : Int)) (w.alloc (.cells Lib.zeros24 196)) w.heap.size 0 dk).drewN k) = .ok (.string ⟨(Lib.decDigits u).toArray⟩) ((putRow (fun (b : UInt8) => Value.int .u8 (b.toNat : Int)) (w.alloc (.cells Lib.zeros24 196)) w.heap.size 0 dk).drewN k) := by
      have h := run_convert_bytes_back (P := Tryz.prog) ((putRow (fun (b : UInt8) => Value.int .u8 (b.toNat : Int)) (w.alloc (.cells Lib.zeros24 196)) w.heap.size 0 dk).drewN k) 147 9 5 ⟨w.heap.size, 0, none⟩ 24 (Lib.decDigits u) Tryz.underlying147 Tryz.underlying5 Tryz.underlying9 (fun j hj => by
        rw [Lib.row_is_numeral hF j hj, Lib.add_plain, World.cell?_drewN]
        exact cell?_putRow (fun (b : UInt8) => Value.int .u8 (b.toNat : Int)) _ w.heap.size 0 _ dk HH0.out (by rw [hF.size, Array.size_replicate]) j (by rw [hF.size]; rw [Lib.decDigits_length] at hj; exact hj))
      rw [Lib.decDigits_length] at h
      exact h
    go_wp2
    go_ret
    refine ⟨rfl, ?_⟩
    rw [alloc_eq_grow]
    obtain ⟨os', _, e⟩ := putRow_grow_new (fun (b : UInt8) => Value.int .u8 (b.toNat : Int)) w #[Obj.cells Lib.zeros24 196] w.heap.size 0 dk (Nat.le_refl _)
    rw [e]
    exact nb_grow w k os'
theorem formatUint_any (u : Nat) (h : u < 18446744073709551616) (w : World) (hG : GOk w) :
    Calls Tryz.prog 155 #[.int .u64 u, .int .i64 10] w fun e w' => e = .returned (.string (tn u)) ∧ Below w.heap.size w w' := by
  go_enter Tryz.func155, Tryz.ntmps155
  go_wp2_with (go_at_call 170; refine (formatUint_inner u h _ hG).mono ?_; rintro e w1 ⟨rfl, hb1⟩)
  go_ret
  exact ⟨rfl, hb1⟩
theorem dec_of (u : Nat) (h : u < 18446744073709551616) (w : World) (hG : GOk w) :
    Calls Tryz.prog 131 #[.int .u64 u] w fun e w' => e = .returned (.string (tn u)) ∧ Below w.heap.size w w' := by
  go_enter Tryz.func131, Tryz.ntmps131
  go_wp2_with (go_at_call 155; refine (formatUint_any u h _ hG).mono ?_; rintro e w1 ⟨rfl, hb1⟩)
  go_ret
  exact ⟨rfl, hb1⟩
theorem parseUint_dec (u : Nat) (h : u < 18446744073709551616) : Lib.parseUintB 64 (Lib.decDigits u) = .ok u := by
  have key : ∀ (l : List UInt8) (acc : Nat), acc < 18446744073709551616 → Lib.parseUintM (2 ^ 64 - 1) acc l = Lib.parseUint10 acc l := by
    intro l
    induction l with
    | nil => intro acc _; rfl
    | cons c l ih =>
      intro acc ha
      simp only [Lib.parseUintM, Lib.parseUint10]
      by_cases h1 : 48 ≤ c.toNat ∧ c.toNat ≤ 57
      · rw [if_pos h1, if_pos h1]
        by_cases h2 : 1844674407370955162 ≤ acc
        · rw [if_pos h2, if_pos h2]
        · rw [if_neg h2, if_neg h2]
          by_cases h3 : 18446744073709551616 ≤ acc * 10 + (c.toNat - 48)
          · rw [if_pos (by omega), if_pos h3]
          · rw [if_neg (by omega), if_neg h3]
            exact ih _ (by omega)
      · rw [if_neg h1, if_neg h1]
  have := parseMag_dec u
  rw [if_pos h] at this
  unfold Lib.parseMag at this
  rw [if_neg (dec_ne u)] at this
  unfold Lib.parseUintB
  rw [if_neg (dec_ne u), key _ _ (by omega), this]
theorem parseUint_ok (u : Nat) (h : u < 18446744073709551616) (hs : (tn u).size ≤ 1000000000000) (w : World) :
    Calls Tryz.prog 169 #[.string (tn u), .int .i64 10, .int .i64 64] w fun e w' => e = .returned (.tuple #[.int .u64 u, .nilIface]) ∧ Below w.heap.size w w' :=
  (Tryz.strconv_ParseUint_10_at64_ok (tn u) (by omega) u (parseUint_dec u h) w).mono fun e w' ⟨he, hw⟩ => ⟨he, by
    rcases hw with rfl | rfl
    · exact nb_refl _
    · exact Lib.bytesWorld_below w _ _⟩
theorem dec_small (u : Nat) (h : u < 18446744073709551616) (hs : (tn u).size ≤ 1000000000000) (w : World) :
    Calls Tryz.prog 154 #[.string (tn u)] w fun e w' => e = .returned (.tuple #[.int .u64 u, .bool true]) ∧ Below w.heap.size w w' := by
  go_enter Tryz.func154, Tryz.ntmps154
  go_wp2_with (go_at_call 169; refine (parseUint_ok u h hs _).mono ?_; rintro e w1 ⟨rfl, hb1⟩)
  go_ret2
  exact ⟨rfl, hb1⟩
theorem lt_of_tn {u k : Nat} (h : (tn u).size ≤ k) : u < 10 ^ k := by
  rw [tn_size] at h
  exact Nat.lt_of_lt_of_le (Lib.lt_pow_nDigits _) (Nat.pow_le_pow_right (by omega) h)
theorem both_long (s t : ByteArray) (h : 18 < s.size ∨ 18 < t.size) (hs : s.size ≤ 1000000000000) (ht : t.size ≤ 1000000000000) (w : World) :
    Calls Tryz.prog 130 #[.string s, .string t] w fun e w' => e = .returned (.tuple #[.int .u64 0, .int .u64 0, .bool false]) ∧ Below w.heap.size w w' := by
  by_cases h1 : (18 : Int) < (s.size : Int)
  · go_enter Tryz.func130, Tryz.ntmps130
    go_wp2
    go_ret3
    exact ⟨rfl, nb_refl _⟩
  · have h2 : (18 : Int) < (t.size : Int) := by omega
    have h1' : (s.size : Int) ≤ 18 := by omega
    clear h
    go_enter Tryz.func130, Tryz.ntmps130
    go_wp2
    go_ret3
    exact ⟨rfl, nb_refl _⟩
theorem both_short (u v : Nat) (hu : (tn u).size ≤ 18) (hv : (tn v).size ≤ 18) (w : World) :
    Calls Tryz.prog 130 #[.string (tn u), .string (tn v)] w fun e w' => e = .returned (.tuple #[.int .u64 u, .int .u64 v, .bool true]) ∧ Below w.heap.size w w' := by
  have hu1 := lt_of_tn hu
  have hv1 := lt_of_tn hv
  have hu' : ((tn u).size : Int) ≤ 18 := by omega
  have hv' : ((tn v).size : Int) ≤ 18 := by omega
  have S1 := Lib.hid (fun W => dec_small u (by omega) (by omega) W)
  have S2 := Lib.hid (fun W => dec_small v (by omega) (by omega) W)
  clear hu hv hu1 hv1
  go_enter Tryz.func130, Tryz.ntmps130
  go_wp2_with fail
  refine (S1.out _).mono ?_
  rintro e w1 ⟨rfl, hb1⟩
  go_wp2_with fail
  refine (S2.out _).mono ?_
  rintro e w2 ⟨rfl, hb2⟩
  go_wp2_with fail
  go_ret3
  exact ⟨rfl, nb_trans hb1 hb2⟩
end Go.Proofs.YtmfkpmepgbjmkaaGreatDoor

namespace Go.Proofs.YtmfkpmepgbjmkaaGreatDoor
open Go.RowKit

/-- A slice, from its array's head on, that reads as whole numbers. -/
def Rd (k : IntKind) (w : World) (A : Option Addr) (n : Nat) (ds : List Int) : Prop :=
  ds.length = n ∧ ∀ i, i < n → ∃ g, A = some ⟨g, 0, none⟩ ∧ w.cell? ⟨g, i, none⟩ = some (.int k (ds.getD i 0))
section
variable {k : IntKind} {w w1 : World} {A : Option Addr} {n : Nat} {ds : List Int}
theorem Rd.nb (h : Rd k w A n ds) (hb : Below w.heap.size w w1) : Rd k w1 A n ds :=
  ⟨h.1, fun i hi => by
    obtain ⟨g, e, hc⟩ := h.2 i hi
    exact ⟨g, e, cellB hb hc⟩⟩
theorem Rd.at_ (h : Rd k w A n ds) {i : Nat} (hi : i < n) : ∃ g, A = some ⟨g, 0, none⟩ ∧ w.cell? ⟨g, i, none⟩ = some (.int k (ds.getD i 0)) := h.2 i hi
theorem Rd.some_ (h : Rd k w A n ds) (hn : 0 < n) : ∃ g, A = some ⟨g, 0, none⟩ ∧ ∀ i, i < n → w.cell? ⟨g, i, none⟩ = some (.int k (ds.getD i 0)) := by
  obtain ⟨g, e, _⟩ := h.2 0 hn
  refine ⟨g, e, fun i hi => ?_⟩
  obtain ⟨g', e', hc⟩ := h.2 i hi
  have : g = g' := by rw [e] at e'; injection e' with e'; injection e'
  rw [this]
  exact hc
end
/-- What trim leaves. -/
def Trims (ds : List Int) (m : Nat) : Prop := m ≤ ds.length ∧ (∀ i, m ≤ i → i < ds.length → ds.getD i 0 = 0) ∧ (m = 0 ∨ ds.getD (m - 1) 0 ≠ 0)

def TrimPost (ds : List Int) (A : Option Addr) (c : Nat) (w : World) (e : Ending) (w' : World) : Prop := ∃ m, Trims ds m ∧ e = .returned (.slice A m c) ∧ w = w'
set_option maxRecDepth 100000 in
theorem trim_any (A : Option Addr) (n c : Nat) (ds : List Int) (w : World) (hr : Rd .u64 w A n ds) (hc : n ≤ c) (hn : n ≤ 4611686018427387904) :
    Calls Tryz.prog 138 #[.slice A n c] w (TrimPost ds A c w) := by
  have HL := Lib.hid hr.1
  have HR := Lib.hid hr
  clear hr
  go_enter Tryz.func138, Tryz.ntmps138
  go_wp2_with fail
  go_loop [0] (fun s => ∃ m : Nat, m ≤ n ∧ (∀ i, m ≤ i → i < ds.length → ds.getD i 0 = 0) ∧ s = .slice A m c) (fun s => match s with | .slice _ m _ => m | _ => 0)
  case atStart => exact ⟨n, Nat.le_refl _, fun i h1 h2 => by have := HL.out; omega, rfl⟩
  case round =>
    obtain ⟨m, hm, hz, rfl⟩ := hrel
    have HZ := Lib.hid hz
    clear hz
    by_cases h0 : 0 < m
    · obtain ⟨g, hA, hcell⟩ := HR.out.at_ (i := m - 1) (by omega)
      obtain ⟨j, rfl⟩ : ∃ j, m = j + 1 := ⟨m - 1, by omega⟩
      simp only [Nat.add_sub_cancel] at hcell
      obtain ⟨d, hd⟩ : ∃ d, d = ds.getD j 0 := ⟨_, rfl⟩
      rw [← hd] at hcell
      have HD := Lib.hid hd
      clear hd
      subst hA
      by_cases hd0 : d = 0
      · subst hd0
        go_wp2_with fail
        go_round
        case rel =>
          refine ⟨j, by omega, fun i h1 h2 => ?_, rfl⟩
          by_cases hij : i = j
          · rw [hij]; exact HD.out.symm
          · exact HZ.out i (by omega) h2
        case measure => simp
      · have hd0' : (d == 0) = false := by simpa using hd0
        go_wp2_with fail
        go_ret
        exact ⟨j + 1, ⟨by have := HL.out; omega, HZ.out, .inr (by rw [Nat.add_sub_cancel, ← HD.out]; exact hd0)⟩, rfl, rfl⟩
    · obtain rfl : m = 0 := by omega
      go_wp2_with fail
      go_ret
      exact ⟨0, ⟨by omega, HZ.out, .inl rfl⟩, rfl, rfl⟩
end Go.Proofs.YtmfkpmepgbjmkaaGreatDoor

namespace Go.Proofs.YtmfkpmepgbjmkaaGreatDoor

def val : List Int → Int
  | [] => 0
  | d :: r => d + 1000000000 * val r
def Dig (ds : List Int) : Prop := ∀ d ∈ ds, 0 ≤ d ∧ d < 1000000000
/-- No zero at the end. -/
def Top (ds : List Int) : Prop := ds = [] ∨ ds.getD (ds.length - 1) 0 ≠ 0
abbrev B9 : Int := 1000000000

theorem pow_pos9 (k : Nat) : 0 < B9 ^ k := Int.pow_pos (by decide)
theorem Dig.tail {d : Int} {ds : List Int} (h : Dig (d :: ds)) : Dig ds := fun x hx => h x (List.mem_cons_of_mem _ hx)
theorem Dig.head {d : Int} {ds : List Int} (h : Dig (d :: ds)) : 0 ≤ d ∧ d < 1000000000 := h d (List.mem_cons_self ..)
theorem Dig.append {a b : List Int} (ha : Dig a) (hb : Dig b) : Dig (a ++ b) := fun d hd => (List.mem_append.1 hd).elim (ha d) (hb d)
theorem Dig.left {a b : List Int} (h : Dig (a ++ b)) : Dig a := fun d hd => h d (List.mem_append_left _ hd)
theorem Dig.right {a b : List Int} (h : Dig (a ++ b)) : Dig b := fun d hd => h d (List.mem_append_right _ hd)
theorem Dig.take {a : List Int} (h : Dig a) (k : Nat) : Dig (a.take k) := fun d hd => h d (List.mem_of_mem_take hd)
theorem Dig.drop {a : List Int} (h : Dig a) (k : Nat) : Dig (a.drop k) := fun d hd => h d (List.mem_of_mem_drop hd)
theorem Dig.at_ {a : List Int} (h : Dig a) (i : Nat) : 0 ≤ a.getD i 0 ∧ a.getD i 0 < 1000000000 := by
  rw [List.getD_eq_getElem?_getD]
  by_cases hi : i < a.length
  · rw [List.getElem?_eq_getElem hi]
    exact h _ (List.getElem_mem hi)
  · rw [List.getElem?_eq_none (by omega)]
    exact ⟨by simp, by simp⟩
theorem Dig.set {a : List Int} (h : Dig a) (i : Nat) {x : Int} (h0 : 0 ≤ x) (h1 : x < 1000000000) : Dig (a.set i x) := by
  intro d hd
  rcases List.mem_or_eq_of_mem_set hd with hd | rfl
  · exact h d hd
  · exact ⟨h0, h1⟩
theorem Dig.zeros (n : Nat) : Dig (List.replicate n 0) := fun d hd => by rw [List.eq_of_mem_replicate hd]; exact ⟨by decide, by decide⟩

theorem val_append (a b : List Int) : val (a ++ b) = val a + B9 ^ a.length * val b := by
  induction a with
  | nil => simp [val]
  | cons d a ih =>
    show d + 1000000000 * val (a ++ b) = (d + 1000000000 * val a) + B9 ^ (a.length + 1) * val b
    rw [ih, Int.pow_succ]
    generalize B9 ^ a.length = p
    grind
theorem val_nonneg {ds : List Int} (h : Dig ds) : 0 ≤ val ds := by
  induction ds with
  | nil => exact Int.le_refl _
  | cons d ds ih =>
    have := ih h.tail
    have := h.head
    show 0 ≤ d + 1000000000 * val ds
    omega
theorem val_lt {ds : List Int} (h : Dig ds) : val ds < B9 ^ ds.length := by
  induction ds with
  | nil => decide
  | cons d ds ih =>
    have h1 := ih h.tail
    have h2 := h.head
    show d + 1000000000 * val ds < B9 ^ (ds.length + 1)
    rw [Int.pow_succ]
    generalize B9 ^ ds.length = p at *
    have e : p * B9 = 1000000000 * p := Int.mul_comm _ _
    omega
theorem val_zeros (n : Nat) : val (List.replicate n 0) = 0 := by
  induction n with
  | zero => rfl
  | succ n ih => rw [List.replicate_succ]; show 0 + 1000000000 * val _ = 0; rw [ih]; rfl
theorem val_all_zero {ds : List Int} (h : ∀ d ∈ ds, d = 0) : val ds = 0 := by
  induction ds with
  | nil => rfl
  | cons d ds ih =>
    show d + 1000000000 * val ds = 0
    rw [ih (fun x hx => h x (List.mem_cons_of_mem _ hx)), h d (List.mem_cons_self ..)]
    rfl
theorem val_take_drop (ds : List Int) (k : Nat) (hk : k ≤ ds.length) : val ds = val (ds.take k) + B9 ^ k * val (ds.drop k) := by
  have h := val_append (ds.take k) (ds.drop k)
  rw [List.take_append_drop, List.length_take, Nat.min_eq_left hk] at h
  exact h
theorem val_snoc (ds : List Int) (d : Int) : val (ds ++ [d]) = val ds + B9 ^ ds.length * d := by
  rw [val_append]
  show val ds + B9 ^ ds.length * (d + 1000000000 * 0) = _
  simp
/-- One digit more of a list. -/
theorem val_take_succ (ds : List Int) (k : Nat) (hk : k < ds.length) : val (ds.take (k + 1)) = val (ds.take k) + B9 ^ k * ds.getD k 0 := by
  rw [List.take_succ_eq_append_getElem hk, val_snoc, List.length_take, Nat.min_eq_left (by omega)]
  rw [List.getD_eq_getElem?_getD, List.getElem?_eq_getElem hk]
  rfl
theorem val_set (ds : List Int) (k : Nat) (hk : k < ds.length) (x : Int) : val (ds.set k x) = val ds + B9 ^ k * (x - ds.getD k 0) := by
  induction ds generalizing k with
  | nil => simp at hk
  | cons d ds ih =>
    cases k with
    | zero =>
      show x + 1000000000 * val ds = (d + 1000000000 * val ds) + B9 ^ 0 * (x - d)
      rw [Int.pow_zero]
      omega
    | succ k =>
      have := ih k (by simpa using hk)
      show d + 1000000000 * val (ds.set k x) = (d + 1000000000 * val ds) + B9 ^ (k + 1) * (x - ds.getD k 0)
      rw [this, Int.pow_succ]
      generalize B9 ^ k = p
      generalize ds.getD k 0 = y
      grind
theorem val_top {ds : List Int} (h : Dig ds) (ht : ds.getD (ds.length - 1) 0 ≠ 0) (hl : 0 < ds.length) : B9 ^ (ds.length - 1) ≤ val ds := by
  have h1 := val_take_drop ds (ds.length - 1) (by omega)
  have h2 := val_nonneg (h.take (ds.length - 1))
  have h3 : ds.drop (ds.length - 1) = [ds.getD (ds.length - 1) 0] := by
    rw [List.drop_eq_getElem_cons (by omega), List.drop_eq_nil_of_le (by omega), List.getD_eq_getElem?_getD, List.getElem?_eq_getElem (by omega)]
    rfl
  rw [h3] at h1
  have h4 := h.at_ (ds.length - 1)
  have h5 : val [ds.getD (ds.length - 1) 0] = ds.getD (ds.length - 1) 0 := by
    show _ + 1000000000 * 0 = _
    omega
  rw [h5] at h1
  have h6 := pow_pos9 (ds.length - 1)
  have h7 : B9 ^ (ds.length - 1) * 1 ≤ B9 ^ (ds.length - 1) * ds.getD (ds.length - 1) 0 := Int.mul_le_mul_of_nonneg_left (by omega) (by omega)
  omega
theorem pow_le9 {a b : Nat} (h : a ≤ b) : B9 ^ a ≤ B9 ^ b := by
  obtain ⟨c, rfl⟩ := Nat.exists_eq_add_of_le h
  rw [Int.pow_add]
  have h1 := pow_pos9 a
  have h2 := pow_pos9 c
  have h3 : B9 ^ a * 1 ≤ B9 ^ a * B9 ^ c := Int.mul_le_mul_of_nonneg_left (by omega) (by omega)
  omega
/-- The longer one is greater. -/
theorem val_longer {a b : List Int} (ha : Dig a) (hb : Dig b) (tb : Top b) (h : a.length < b.length) : val a < val b := by
  have h1 := val_lt ha
  have h2 := val_top hb (by rcases tb with rfl | h; simp at h; exact h) (by omega)
  have h3 := pow_le9 (show a.length ≤ b.length - 1 by omega)
  omega
/-- The first differing digit from the end decides. -/
theorem val_differ {a b : List Int} (ha : Dig a) (hb : Dig b) (hl : a.length = b.length) {i : Nat} (hi : i < a.length) (hlt : a.getD i 0 < b.getD i 0) (hs : a.drop (i + 1) = b.drop (i + 1)) : val a < val b := by
  have h1 := val_take_drop a (i + 1) (by omega)
  have h2 := val_take_drop b (i + 1) (by omega)
  rw [val_take_succ a i hi] at h1
  rw [val_take_succ b i (by omega)] at h2
  rw [hs] at h1
  have h3 := val_lt (ha.take i)
  have h4 := val_nonneg (hb.take i)
  rw [List.length_take, Nat.min_eq_left (by omega)] at h3
  have h5 := pow_pos9 i
  have h6 : B9 ^ i * (a.getD i 0 + 1) ≤ B9 ^ i * b.getD i 0 := Int.mul_le_mul_of_nonneg_left (by omega) (by omega)
  rw [Int.mul_add] at h6
  omega
/-- Digits with no zero at the end are told by their number. -/
theorem val_inj {a b : List Int} (ha : Dig a) (hb : Dig b) (ta : Top a) (tb : Top b) (h : val a = val b) : a = b := by
  have hl : a.length = b.length := by
    rcases Nat.lt_trichotomy a.length b.length with h1 | h1 | h1
    · have := val_longer ha hb tb h1; omega
    · exact h1
    · have := val_longer hb ha ta h1; omega
  have key : ∀ (a b : List Int), Dig a → Dig b → a.length = b.length → val a = val b → a = b := by
    intro a
    induction a with
    | nil => intro b _ _ hl _; exact (List.eq_nil_of_length_eq_zero (by simpa using hl.symm)).symm
    | cons x a ih =>
      intro b ha hb hl h
      cases b with
      | nil => simp at hl
      | cons y b =>
        have hx := ha.head
        have hy := hb.head
        have h' : x + 1000000000 * val a = y + 1000000000 * val b := h
        have e : x = y := by omega
        have e2 : val a = val b := by omega
        rw [e, ih b ha.tail hb.tail (by simpa using hl) e2]
  exact key a b ha hb hl h
end Go.Proofs.YtmfkpmepgbjmkaaGreatDoor
