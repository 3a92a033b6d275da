/-
  WORDS FOR MEMORY, and the library's contracts said with them: what the laid variables hold (GOk), what a call keeps (Kp), a row of integers' texts in a block (Row).
-/
import Derived.Test.YtmfkpmepgbjmkaaGreatDoorShelf
import Derived.Test.YtmfkpmepgbjmkaaGreatDoorNum
import Derived.WalkKit
import Derived.WalkLawsBesides
import Derived.WalkSpells
import Derived.WalkSmall
import Derived.Deep.RegionHeld3
import Derived.Deep.DeepCutAuto
import Derived.Deep.LoopGhost
import Derived.Deep.QuietTactic
import Derived.BigQuiet
import Derived.KernelRfl
import Derived.Lib.Hide
import Derived.Lib.LaidTab
import Derived.Lib.SmallJoins
import Derived.Lib.AtoiErrMem
set_option linter.unusedVariables false
set_option linter.unusedSimpArgs false
namespace Go.Proofs.YtmfkpmepgbjmkaaGreatDoor
open Go.RowKit

/-! ### The laid variables -/
structure GOk (w : World) : Prop where
  tab : Lib.TabIs Tryz.prog w "internal/strconv.uint64pow10" .u64 Lib.pow10Tab
  range : ∃ tp p, w.var? Tryz.prog "strconv.ErrRange" = some #[.iface tp p]
  syn : ∃ tp p, w.var? Tryz.prog "strconv.ErrSyntax" = some #[.iface tp p]

theorem var_lt {w : World} {n : String} {cs : Array Value} (hv : w.var? Tryz.prog n = some cs) : ∃ g, Tryz.prog.globalNamed n = some g ∧ g < w.heap.size := by
  unfold World.var? at hv
  cases hg : Tryz.prog.globalNamed n with
  | none => rw [hg] at hv; cases hv
  | some g =>
    refine ⟨g, rfl, ?_⟩
    rw [hg] at hv
    simp only [Option.bind_some] at hv
    rcases Nat.lt_or_ge g w.heap.size with h | h
    · exact h
    · rw [Array.getElem?_eq_none h] at hv
      cases hv
theorem var_nb {w w' : World} {n : String} {cs : Array Value} (hb : Below w.heap.size w w') (hv : w.var? Tryz.prog n = some cs) : w'.var? Tryz.prog n = some cs := by
  obtain ⟨g, hg, hlt⟩ := var_lt hv
  exact var?_below hb hg hlt hv
theorem GOk.below {w w' : World} (h : GOk w) (hb : Below w.heap.size w w') : GOk w' := by
  obtain ⟨t, ⟨a, b, r⟩, ⟨c, d, s⟩⟩ := h
  exact ⟨var_nb hb t, ⟨a, b, var_nb hb r⟩, ⟨c, d, var_nb hb s⟩⟩
theorem GOk.drew {w : World} (h : GOk w) : GOk w.drew := h.below ⟨rfl, rfl, rfl, Nat.le_refl _, fun _ _ => rfl⟩

/-! ### What a call keeps -/
theorem nb_refl (w : World) : Below w.heap.size w w := Below.refl _ _
theorem nb_trans {w w1 w2 : World} (h : Below w.heap.size w w1) (h' : Below w1.heap.size w1 w2) : Below w.heap.size w w2 :=
  h.trans (h'.mono h.size)
theorem nb_drew (w : World) : Below w.heap.size w w.drew := ⟨rfl, rfl, rfl, Nat.le_refl _, fun _ _ => rfl⟩
theorem nb_drewN (w : World) (n : Nat) : Below w.heap.size w (w.drewN n) := ⟨rfl, rfl, rfl, Nat.le_refl _, fun _ _ => rfl⟩
theorem nb_alloc (w : World) (o : Obj) : Below w.heap.size w (w.alloc o) := (Below.refl _ _).alloc (Nat.le_refl _) o
theorem cellB {w w1 : World} {a : Addr} {v : Value} (hb : Below w.heap.size w w1) (hc : w.cell? a = some v) : w1.cell? a = some v := (hb.cell (World.block_lt_of_cell? w a hc)).trans hc
theorem frozenB {w w1 : World} {a : Addr} {v : Value} (hb : Below w.heap.size w w1) (hc : w.cell? a = some v) (hf : w.frozen? a = false) : w1.frozen? a = false := (hb.frozen (World.block_lt_of_cell? w a hc)).trans hf

/-- All but the blocks of S is as it was. -/
structure Kp (S : Nat → Prop) (w w' : World) : Prop where
  os : w'.os = w.os
  tape : w'.tape = w.tape
  output : w'.output = w.output
  size : w.heap.size ≤ w'.heap.size
  block : ∀ i, i < w.heap.size → ¬ S i → w'.heap[i]? = w.heap[i]?
theorem Kp.refl (S : Nat → Prop) (w : World) : Kp S w w := ⟨rfl, rfl, rfl, Nat.le_refl _, fun _ _ _ => rfl⟩
theorem Kp.trans {S : Nat → Prop} {w w1 w2 : World} (h : Kp S w w1) (h' : Kp S w1 w2) : Kp S w w2 :=
  ⟨h'.os.trans h.os, h'.tape.trans h.tape, h'.output.trans h.output, Nat.le_trans h.size h'.size, fun i hi hs => (h'.block i (Nat.lt_of_lt_of_le hi h.size) hs).trans (h.block i hi hs)⟩
theorem Kp.mono {S S' : Nat → Prop} {w w1 : World} (h : Kp S w w1) (hs : ∀ i, S i → S' i) : Kp S' w w1 := ⟨h.os, h.tape, h.output, h.size, fun i hi hn => h.block i hi (fun h' => hn (hs i h'))⟩
theorem Kp.of_below {S : Nat → Prop} {w w1 : World} (h : Below w.heap.size w w1) : Kp S w w1 := ⟨h.os, h.tape, h.output, h.size, fun i hi _ => h.block i hi⟩
/-- What S holds of what was made since: it does not matter. -/
theorem Kp.since {S : Nat → Prop} {w w1 w2 : World} (h : Kp S w w1) (h' : Kp (fun i => S i ∨ w.heap.size ≤ i) w1 w2) : Kp S w w2 :=
  ⟨h'.os.trans h.os, h'.tape.trans h.tape, h'.output.trans h.output, Nat.le_trans h.size h'.size, fun i hi hs => (h'.block i (Nat.lt_of_lt_of_le hi h.size) (fun hx => by rcases hx with hx | hx; exact hs hx; omega)).trans (h.block i hi hs)⟩
theorem Kp.below {S : Nat → Prop} {w w1 : World} {B : Nat} (h : Kp S w w1) (hB : B ≤ w.heap.size) (hs : ∀ i, S i → B ≤ i) : Below B w w1 :=
  ⟨h.os, h.tape, h.output, h.size, fun i hi => h.block i (Nat.lt_of_lt_of_le hi hB) (fun hx => by have := hs i hx; omega)⟩
theorem Kp.set {S : Nat → Prop} {w w1 : World} (h : Kp S w w1) {p : Addr} (hp : S p.block) (v : Value) : Kp S w (w1.setCell p v) :=
  ⟨h.os, h.tape, h.output, by simpa [World.setCell] using h.size, fun i hi hs => (Below.heap_setCell w1 p v i (fun e => hs (e ▸ hp))).trans (h.block i hi hs)⟩
theorem Kp.nb {S : Nat → Prop} {w w1 w2 : World} (h : Kp S w w1) (h' : Below w1.heap.size w1 w2) : Kp S w w2 := h.trans (Kp.of_below h')
theorem Kp.cell {S : Nat → Prop} {w w1 : World} (h : Kp S w w1) {a : Addr} {v : Value} (hc : w.cell? a = some v) (hs : ¬ S a.block) : w1.cell? a = some v :=
  (World.cell?_of_block (h.block _ (World.block_lt_of_cell? w a hc) hs)).trans hc
theorem Kp.frozen {S : Nat → Prop} {w w1 : World} (h : Kp S w w1) {a : Addr} {b : Bool} (hc : a.block < w.heap.size) (hf : w.frozen? a = b) (hs : ¬ S a.block) : w1.frozen? a = b :=
  (World.frozen?_of_block (h.block _ hc hs)).trans hf
theorem GOk.kp {S : Nat → Prop} {w w' : World} (h : GOk w) (hk : Kp S w w') (hs : ∀ n g, (n = "internal/strconv.uint64pow10" ∨ n = "strconv.ErrRange" ∨ n = "strconv.ErrSyntax") → Tryz.prog.globalNamed n = some g → ¬ S g) : GOk w' := by
  have one : ∀ n cs, (n = "internal/strconv.uint64pow10" ∨ n = "strconv.ErrRange" ∨ n = "strconv.ErrSyntax") → w.var? Tryz.prog n = some cs → w'.var? Tryz.prog n = some cs := by
    intro n cs hn hv
    obtain ⟨g, hg, hlt⟩ := var_lt hv
    have hb := hk.block g hlt (hs n g hn hg)
    unfold World.var? at hv ⊢
    simp only [hg, Option.bind_some] at hv ⊢
    rw [hb]
    exact hv
  obtain ⟨t, ⟨a, b, r⟩, ⟨c, d, s⟩⟩ := h
  exact ⟨one _ _ (.inl rfl) t, ⟨a, b, one _ _ (.inr (.inl rfl)) r⟩, ⟨c, d, one _ _ (.inr (.inr rfl)) s⟩⟩

/-! ### A row of integers' texts at the head of a block -/
def strs (xs : List Int) : List Value := xs.map fun x => .string (tx x)
def Row (w : World) (g : Nat) (xs : List Int) : Prop := ∃ cur : Array Value, w.heap[g]? = some (.cells cur 38 (0, 0)) ∧ cur.toList.take xs.length = strs xs
theorem Row.lt {w : World} {g : Nat} {xs : List Int} (h : Row w g xs) : g < w.heap.size := by
  obtain ⟨cur, hc, _⟩ := h
  exact (Array.getElem?_eq_some_iff.1 hc).1
theorem Row.of_block {w w1 : World} {g : Nat} {xs : List Int} (h : Row w g xs) (hb : w1.heap[g]? = w.heap[g]?) : Row w1 g xs := by
  obtain ⟨cur, hc, ht⟩ := h
  exact ⟨cur, hb.trans hc, ht⟩
theorem Row.kp {S : Nat → Prop} {w w1 : World} {g : Nat} {xs : List Int} (h : Row w g xs) (hk : Kp S w w1) (hs : ¬ S g) : Row w1 g xs := h.of_block (hk.block g h.lt hs)
theorem Row.nb {w w1 : World} {g : Nat} {xs : List Int} (h : Row w g xs) (hb : Below w.heap.size w w1) : Row w1 g xs := h.of_block (hb.block g h.lt)
theorem Row.cell {w : World} {g : Nat} {xs : List Int} (h : Row w g xs) {i : Nat} (hi : i < xs.length) : w.cell? ⟨g, i, none⟩ = some (.string (tx (xs.getD i 0))) := by
  obtain ⟨cur, hc, ht⟩ := h
  have h1 : (cur.toList.take xs.length)[i]? = (strs xs)[i]? := by rw [ht]
  rw [List.getElem?_take_of_lt hi] at h1
  simp only [World.cell?, hc]
  simp only [Option.isSome_none, Bool.false_eq_true, if_false]
  rw [← Array.getElem?_toList, h1]
  simp [strs, List.getD_eq_getElem?_getD, List.getElem?_eq_getElem hi]
theorem Row.frozen {w : World} {g : Nat} {xs : List Int} (h : Row w g xs) (i : Nat) : w.frozen? ⟨g, i, none⟩ = false := by
  obtain ⟨cur, hc, _⟩ := h
  simp [World.frozen?, hc]
theorem Row.set {w : World} {g : Nat} {xs : List Int} (h : Row w g xs) (i : Nat) (z : Int) : Row (w.setCell ⟨g, i, none⟩ (.string (tx z))) g (xs.set i z) := by
  obtain ⟨cur, hc, ht⟩ := h
  refine ⟨cur.setIfInBounds i (.string (tx z)), ?_, ?_⟩
  · simp [World.setCell, Array.getElem?_modify, hc]
  · rw [Array.toList_setIfInBounds, List.length_set]
    rw [show strs (xs.set i z) = (strs xs).set i (.string (tx z)) from by simp [strs, List.map_set], ← ht, List.take_set]

/-! ### The library -/
theorem nb_grow (w : World) (k : Nat) (os : Array Obj) : Below w.heap.size w (Sort.grow (w.drewN k) os) :=
  ⟨rfl, rfl, rfl, by show w.heap.size ≤ (w.heap ++ os).size; simp, fun i hi => by show (w.heap ++ os)[i]? = w.heap[i]?; rw [Array.getElem?_append_left hi]⟩
/-- An int. -/
def I64 (n : Int) : Prop := -9223372036854775808 ≤ n ∧ n ≤ 9223372036854775807

theorem itoa_any (n : Int) (h : I64 n) (w : World) (hG : GOk w) :
    Calls Tryz.prog 56 #[.int .i64 n] w fun e w' => e = .returned (.string (tx n)) ∧ Below w.heap.size w w' :=
  (Tryz.strconv_Itoa n h.1 h.2 w hG.tab).mono fun e w' ⟨he, k, os, hw⟩ => ⟨he, hw ▸ nb_grow w k os⟩
theorem atoi_any (n : Int) (h : I64 n) (hs : (tx n).size ≤ 1000) (w : World) :
    Calls Tryz.prog 129 #[.string (tx n)] w fun e w' => e = .returned (.tuple #[.int .i64 n, .nilIface]) ∧ Below w.heap.size w w' :=
  (Tryz.strconv_Atoi_ok (tx n) (by omega) n (atoi_itoa n h.1 h.2) w).mono fun e w' ⟨he, hw⟩ => ⟨he, by
    rcases hw with rfl | ⟨t, rfl⟩
    · exact nb_refl _
    · exact Lib.bytesWorld_below w _ t⟩
theorem parseInt_ok (n : Int) (h : I64 n) (hs : (tx n).size ≤ 281474976710656) (w : World) :
    Calls Tryz.prog 127 #[.string (tx n), .int .i64 10, .int .i64 64] w fun e w' => e = .returned (.tuple #[.int .i64 n, .nilIface]) ∧ Below w.heap.size w w' :=
  (Tryz.strconv_ParseInt_10_at64_ok (tx n) (by omega) n (by rw [Lib.parseIntB_64]; exact atoi_itoa n h.1 h.2) w).mono fun e w' ⟨he, hw⟩ => ⟨he, by
    rcases hw with rfl | ⟨t, rfl⟩
    · exact nb_refl _
    · exact Lib.bytesWorld_below w _ t⟩
theorem parseInt_far (n : Int) (h : ¬ I64 n) (hs : (tx n).size ≤ 281474976710656) (w : World) (hG : GOk w) :
    Calls Tryz.prog 127 #[.string (tx n), .int .i64 10, .int .i64 64] w fun e w' => ∃ (v : Int) (T : TypeId) (p : Value), e = .returned (.tuple #[.int .i64 v, .iface T p]) ∧ Below w.heap.size w w' := by
  obtain ⟨tp, p, hv⟩ := hG.range
  refine (Tryz.strconv_ParseInt_10_at64_range_var (tx n) hs (by rw [Lib.parseIntB_64]; exact atoi_far n (by unfold I64 at h; omega)) tp p w hv).mono ?_
  rintro e w' ⟨N, he, _, _, hb⟩
  exact ⟨_, _, _, he, hb⟩
end Go.Proofs.YtmfkpmepgbjmkaaGreatDoor
