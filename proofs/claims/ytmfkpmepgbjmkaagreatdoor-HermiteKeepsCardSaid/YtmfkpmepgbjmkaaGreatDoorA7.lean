/-
  WALKS: hermite's line.less: its closure, then the function.
  WALKS: hermite's line.less.
  WALKS: hermite's line.turn.
  WORDS FOR MEMORY: a slice of hermite's lines.
-/
import Derived.Test.YtmfkpmepgbjmkaaGreatDoorA6
import Derived.Test.YtmfkpmepgbjmkaaGreatDoorP1
set_option linter.unusedVariables false
set_option linter.unusedSimpArgs false
namespace Go.Proofs.YtmfkpmepgbjmkaaGreatDoor
open Go.RowKit

/-- At most D digits. -/
def Lt10 (D : Nat) (x : Int) : Prop := x.natAbs < 10 ^ D
def Lt10s (D : Nat) (l : List Int) : Prop := ∀ x ∈ l, Lt10 D x
theorem Lt10.za {D : Nat} {x : Int} (h : Lt10 D x) (hD : D ≤ 30000000000) (hD0 : 1 ≤ D) : Za x := by
  unfold Za
  have h1 := nat_size x
  have h2 := nDigits_le D x.natAbs h hD0
  rw [← tn_size] at h2
  omega
theorem Lt10.neg {D : Nat} {x : Int} (h : Lt10 D x) : Lt10 D (-x) := by unfold Lt10 at *; rw [Int.natAbs_neg]; exact h
theorem Lt10.mul {D E : Nat} {x y : Int} (h : Lt10 D x) (h' : Lt10 E y) : Lt10 (D + E) (x * y) := by
  unfold Lt10 at *
  rw [Int.natAbs_mul, Nat.pow_add]
  exact Nat.mul_lt_mul'' h h'
theorem Lt10s.at_ {D : Nat} {l : List Int} (h : Lt10s D l) (i : Nat) : Lt10 D (l.getD i 0) := by
  rw [List.getD_eq_getElem?_getD]
  rcases Nat.lt_or_ge i l.length with hi | hi
  · rw [List.getElem?_eq_getElem hi]
    exact h _ (List.getElem_mem hi)
  · rw [List.getElem?_eq_none hi]
    show (0 : Nat) < 10 ^ D
    exact Nat.pow_pos (by decide)

def subL (k : Int) (a b : List Int) : List Int := List.zipWith (fun x y => x - k * y) a b
theorem subL_len {k : Int} {a b : List Int} (h : a.length = b.length) : (subL k a b).length = a.length := by simp [subL, h]
/-- Up to place i the multiple is taken. -/
def Tki (k : Int) (i : Nat) (xs ys l : List Int) : Prop := l = subL k (xs.take i) (ys.take i) ++ xs.drop i
theorem Tki.start (k : Int) (xs ys : List Int) : Tki k 0 xs ys xs := by simp [Tki, subL]
theorem Tki.len {k : Int} {i : Nat} {xs ys l : List Int} (h : Tki k i xs ys l) (hl : xs.length = ys.length) (hi : i ≤ xs.length) : l.length = xs.length := by
  subst h
  simp [subL]
  omega
theorem Tki.get {k : Int} {i : Nat} {xs ys l : List Int} (h : Tki k i xs ys l) (hl : xs.length = ys.length) (hi : i < xs.length) : l.getD i 0 = xs.getD i 0 := by
  subst h
  rw [List.getD_eq_getElem?_getD, List.getElem?_append_right (by simp [subL]; omega), List.getD_eq_getElem?_getD, List.getElem?_drop]
  congr 2
  simp [subL]
  omega
theorem Tki.step {k : Int} {i : Nat} {xs ys l : List Int} (h : Tki k i xs ys l) (hl : xs.length = ys.length) (hi : i < xs.length) : Tki k (i + 1) xs ys (l.set i (xs.getD i 0 - k * ys.getD i 0)) := by
  have hlen := h.len hl (by omega)
  have e1 : xs.take (i + 1) = xs.take i ++ [xs.getD i 0] := by
    rw [List.take_add_one, List.getD_eq_getElem?_getD, List.getElem?_eq_getElem hi]; rfl
  have e2 : ys.take (i + 1) = ys.take i ++ [ys.getD i 0] := by
    rw [List.take_add_one, List.getD_eq_getElem?_getD, List.getElem?_eq_getElem (by omega)]; rfl
  have e3 : xs.drop i = xs.getD i 0 :: xs.drop (i + 1) := by
    rw [List.drop_eq_getElem_cons hi, List.getD_eq_getElem?_getD, List.getElem?_eq_getElem hi]; rfl
  unfold Tki at *
  rw [h, e1, e2, e3]
  unfold subL
  rw [List.zipWith_append (by simp; omega), List.append_assoc]
  have e4 : i = (List.zipWith (fun x y => x - k * y) (xs.take i) (ys.take i)).length := by simp; omega
  have e5 : ∀ (A B : List Int) (z z' : Int), i = A.length → (A ++ z :: B).set i z' = A ++ ([z'] ++ B) := fun A B z z' hA => by
    subst hA
    simp
  exact e5 _ _ _ _ e4
theorem Tki.skip {k : Int} {i : Nat} {xs ys l : List Int} (h : Tki k i xs ys l) (hl : xs.length = ys.length) (hi : i < xs.length) (h0 : ys.getD i 0 = 0) : Tki k (i + 1) xs ys l := by
  have := h.step hl hi
  rw [h0, Int.mul_zero, Int.sub_zero, ← h.get hl hi, List.getD_eq_getElem?_getD, List.getElem?_eq_getElem (by rw [h.len hl (by omega)]; exact hi)] at this
  simpa using this
theorem Tki.done {k : Int} {xs ys l : List Int} (h : Tki k xs.length xs ys l) (hl : xs.length = ys.length) : l = subL k xs ys := by
  unfold Tki at h
  rw [h, List.take_length, hl, List.take_length, ← hl, List.drop_length, List.append_nil]

set_option maxRecDepth 100000 in
set_option maxHeartbeats 1600000 in
theorem ltake_any (w : World) (g h kb c1 c2 n D E K : Nat) (k : Int) (xs ys : List Int) (hxl : xs.length = n) (hyl : ys.length = n) (hG : GOk w) (hGg : ∀ W, Kp (· = g) w W → GOk W)
    (hx : Row w g xs) (hy : Row w h ys) (hgh : g ≠ h) (hkb : w.cell? ⟨kb, 0, none⟩ = some (.string (tx k))) (hgk : kb ≠ g) (hmax : n ≤ 1000)
    (fx : Lt10s D xs) (fy : Lt10s E ys) (fk : Lt10 K k) (hD0 : 1 ≤ D) (hE0 : 1 ≤ E) (hK0 : 1 ≤ K) (hD : D ≤ 10000000000) (hEK : K + E ≤ 10000000000) :
    Calls Tryz.prog 125 #[.slice (some ⟨g, 0, none⟩) n c1, .slice (some ⟨h, 0, none⟩) n c2, .pointer (some ⟨kb, 0, none⟩)] w fun e w' => e = .returned (.tuple #[]) ∧ Row w' g (subL k xs ys) ∧ Kp (· = g) w w' := by
  have HX := Lib.hid hxl
  have HY := Lib.hid hyl
  have HK := Lib.hid hkb
  have HF := Lib.hid (And.intro fx fy)
  have HKZ := Lib.hid (fk.za (by omega) hK0)
  have HGG := Lib.hid hGg
  clear hxl hyl hkb fx fy hGg
  go_enter Tryz.func125, Tryz.ntmps125
  go_wp2_with fail
  go_loopw [9] (fun s wr => ∃ (i : Nat) (l : List Int), i ≤ n ∧ s = .int .i64 i ∧ Row wr g l ∧ Hid (Tki k i xs ys l) ∧ Kp (· = g) w wr) (fun s _ => n - (intOf s).toNat)
  case atStart => exact ⟨0, xs, Nat.zero_le _, rfl, hx, Tki.start k xs ys, Kp.refl _ _⟩
  case round =>
    obtain ⟨i, l, hi, rfl, hr, ht, hkp⟩ := hrel
    by_cases hlt : i < n
    · have hyi := (hy.kp hkp (Ne.symm hgh)).cell (i := i) (by rw [HY.out]; exact hlt)
      have hll : Hid (xs.length = ys.length ∧ i < xs.length ∧ l.length = n) := Lib.hid ⟨HX.out.trans HY.out.symm, by rw [HX.out]; exact hlt, (ht.out.len (HX.out.trans HY.out.symm) (by rw [HX.out]; omega)).trans HX.out⟩
      have hxi := hr.cell (i := i) (by rw [hll.out.2.2]; exact hlt)
      have hzi := hr.frozen i
      have hki := hkp.cell HK.out hgk
      have hGr : GOk wr := HGG.out _ hkp
      rw [ht.out.get hll.out.1 hll.out.2.1] at hxi
      have hst := ht.out.step hll.out.1 hll.out.2.1
      have FX := HF.out.1.at_ i
      have FY := HF.out.2.at_ i
      have hsk : Hid (ys.getD i 0 = 0 → Tki k (i + 1) xs ys l) := Lib.hid (fun h => ht.out.skip hll.out.1 hll.out.2.1 h)
      obtain ⟨y, hyy⟩ : ∃ y, y = ys.getD i 0 := ⟨_, rfl⟩
      obtain ⟨x, hxx⟩ : ∃ x, x = xs.getD i 0 := ⟨_, rfl⟩
      rw [← hyy] at hyi hst FY hsk
      rw [← hxx] at hxi hst FX
      have HST := Lib.hid hst
      have ZX := Lib.hid (FX.za (by omega) hD0)
      have ZY := Lib.hid (FY.za (by omega) hE0)
      have ZKY := Lib.hid ((fk.mul FY).za (by omega) (by omega))
      have ZKN := Lib.hid ((fk.mul FY).neg.za (by omega) (by omega))
      clear hyy hxx hst FX FY
      by_cases hy0 : y = 0
      · have hy0' : ((tx y).toList == [48]) = true := by rw [tx_eq_zero, decide_eq_true hy0]
        have HS := Lib.hid (hsk.out hy0)
        clear hsk hy0
        go_wp2_with fail
        go_roundw
        case rel => exact ⟨i + 1, l, by omega, by go_num, hr, HS, hkp⟩
        case measure => (simp [intOf]) <;> omega
      · have hy0' : ((tx y).toList == [48]) = false := by rw [tx_eq_zero, decide_eq_false hy0]
        clear hy0 hsk
        go_wp2_with fail
        go_region_with (first | (go_at_call 55; refine (wmul_any k y HKZ.out ZY.out _ (by first | assumption | exact GOk.drew (by assumption))).mono ?_; rintro e w' ⟨rfl, hb1⟩; have hc1 : w'.cell? ⟨g, i, none⟩ = some (.string (tx x)) := cellB hb1 (by assumption); have hk1 : w'.cell? ⟨kb, 0, none⟩ = some (.string (tx k)) := cellB hb1 (by assumption); have hg1 : GOk w' := GOk.below (by first | assumption | exact GOk.drew (by assumption)) hb1; have hf1 : w'.frozen? ⟨g, i, none⟩ = false := frozenB hb1 (v := .string (tx x)) (by assumption) (by assumption)) | (go_at_call 126; refine (wsub_any x (k * y) ZX.out ZKY.out ZKN.out _ (by first | assumption | exact GOk.drew (by assumption))).mono ?_; rintro e w' ⟨rfl, hb2⟩; have hc2 : w'.cell? ⟨g, i, none⟩ = some (.string (tx x)) := cellB hb2 (by assumption); have hk2 : w'.cell? ⟨kb, 0, none⟩ = some (.string (tx k)) := cellB hb2 (by assumption); have hg2 : GOk w' := GOk.below (by first | assumption | exact GOk.drew (by assumption)) hb2; have hf2 : w'.frozen? ⟨g, i, none⟩ = false := frozenB hb2 (v := .string (tx x)) (by assumption) (by assumption)))
        all_goals go_wp2_with fail
        all_goals
          have hbw : Below wr.heap.size wr w' := by
            first
              | exact nb_trans (nb_drew _) (nb_trans hb1 hb2)
              | exact nb_trans (nb_drew _) (nb_trans hb2 hb1)
              | exact nb_trans hb1 hb2
          refine ⟨⟨i + 1, _, by omega, by go_num, (hr.nb hbw).set i _, HST, (hkp.nb hbw).set (p := ⟨g, i, none⟩) rfl _⟩, ?_⟩
          (simp [intOf]) <;> omega
    · obtain rfl : i = n := by omega
      go_wp2_with fail
      go_end0
      have hd := ht.out
      rw [← HX.out] at hd
      have e := hd.done (HX.out.trans HY.out.symm)
      exact ⟨rfl, by rw [← e]; exact hr, hkp⟩
end Go.Proofs.YtmfkpmepgbjmkaaGreatDoor

namespace Go.Proofs.YtmfkpmepgbjmkaaGreatDoor
open Go.RowKit

/-- The laid variables' blocks stand below B. -/
def Gb (B : Nat) : Prop := ∀ n g, (n = "internal/strconv.uint64pow10" ∨ n = "strconv.ErrRange" ∨ n = "strconv.ErrSyntax") → Tryz.prog.globalNamed n = some g → g < B
theorem GOk.gb {w : World} (h : GOk w) : Gb w.heap.size := by
  obtain ⟨t, ⟨a, b, r⟩, ⟨c, d, s⟩⟩ := h
  intro n g hn hg
  rcases hn with rfl | rfl | rfl
  · obtain ⟨g', hg', hl⟩ := var_lt t; rw [hg] at hg'; cases hg'; exact hl
  · obtain ⟨g', hg', hl⟩ := var_lt r; rw [hg] at hg'; cases hg'; exact hl
  · obtain ⟨g', hg', hl⟩ := var_lt s; rw [hg] at hg'; cases hg'; exact hl
theorem Gb.mono {B C : Nat} (h : Gb B) (hBC : B ≤ C) : Gb C := fun n g hn hg => Nat.lt_of_lt_of_le (h n g hn hg) hBC
theorem GOk.keep {B : Nat} {S : Nat → Prop} {w W : World} (h : GOk w) (hB : Gb B) (hS : ∀ i, S i → B ≤ i) (hk : Kp S w W) : GOk W :=
  h.kp hk fun n g hn hg hs => by have := hB n g hn hg; have := hS g hs; omega
theorem subL_zero {a b : List Int} (h : a.length = b.length) : subL 0 a b = a := by
  unfold subL
  apply List.ext_getElem
  · simp [h]
  · intro i h1 h2
    simp
theorem subL_nil (k : Int) (a : List Int) : subL k a [] = [] := by simp [subL]

theorem ltake_nil (w : World) (v : Value) (kb : Nat) :
    Calls Tryz.prog 125 #[v, .slice none 0 0, .pointer (some ⟨kb, 0, none⟩)] w fun e w' => e = .returned (.tuple #[]) ∧ w' = w := by
  go_enter Tryz.func125, Tryz.ntmps125
  go_wp2_with fail
  go_loopw [9] (fun s wr => s = .int .i64 0 ∧ wr = w) (fun s _ => 0)
  case atStart => exact ⟨rfl, rfl⟩
  case round =>
    obtain ⟨rfl, rfl⟩ := hrel
    go_wp2_with fail
    go_end0
    exact ⟨rfl, rfl⟩

theorem Lt10.zero (D : Nat) : Lt10 D 0 := by show (0 : Nat) < 10 ^ D; exact Nat.pow_pos (by decide)

theorem allocs3 (w : World) (o1 o2 o3 : Obj) : Below w.heap.size w (((w.alloc o1).alloc o2).alloc o3) := nb_trans (nb_alloc w _) (nb_trans (nb_alloc _ _) (nb_alloc _ _))
theorem allocs3_0 (w : World) (a b : Value) (t : TypeId) (o2 o3 : Obj) : (((w.alloc (.cells #[a, b] t)).alloc o2).alloc o3).cell? ⟨w.heap.size, 1, none⟩ = some b := by
  simp only [World.cell?, World.alloc, Array.getElem?_push, Array.size_push]
  repeat (first | rw [if_neg (by omega)] | rw [if_pos (by omega)])
  rfl
theorem allocs3_1 (w : World) (v : Value) (t : TypeId) (o1 o3 : Obj) : (((w.alloc o1).alloc (.cells #[v] t)).alloc o3).cell? ⟨w.heap.size + 1, 0, none⟩ = some v := by
  simp only [World.cell?, World.alloc, Array.getElem?_push, Array.size_push]
  repeat (first | rw [if_neg (by omega)] | rw [if_pos (by omega)])
  rfl
theorem allocs3_2 (w : World) (a b : Value) (t : TypeId) (o1 o2 : Obj) : (((w.alloc o1).alloc o2).alloc (.cells #[a, b] t)).cell? ⟨w.heap.size + 1 + 1, 1, none⟩ = some b := by
  simp only [World.cell?, World.alloc, Array.getElem?_push, Array.size_push]
  repeat (first | rw [if_neg (by omega)] | rw [if_pos (by omega)])
  rfl

set_option maxRecDepth 100000 in
set_option maxHeartbeats 1600000 in
theorem less_any (w : World) (B gx gb hx hb c1 c2 c3 c4 n m D : Nat) (k : Int) (xs ys us vs : List Int) (hxl : xs.length = n) (hyl : ys.length = n) (hul : us.length = m) (hvl : vs.length = m) (hG : GOk w) (hB : Gb B) (bx : B ≤ gx) (bb : B ≤ gb)
    (rx : Row w gx xs) (ry : Row w hx ys) (ru : Row w gb us) (rv : Row w hb vs) (n1 : gx ≠ hx) (n2 : gb ≠ hb) (n3 : gx ≠ gb) (n4 : gx ≠ hb) (n5 : gb ≠ hx) (hn : n ≤ 1000) (hm : m ≤ 1000)
    (fx : Lt10s D xs) (fy : Lt10s D ys) (fu : Lt10s D us) (fv : Lt10s D vs) (fk : Lt10 D k) (hD0 : 1 ≤ D) (hD : D ≤ 4000000000) :
    Calls Tryz.prog 84 #[.agg #[.slice (some ⟨gx, 0, none⟩) n c1, .slice (some ⟨gb, 0, none⟩) m c2], .string (tx k), .agg #[.slice (some ⟨hx, 0, none⟩) n c3, .slice (some ⟨hb, 0, none⟩) m c4]] w
      fun e w' => e = .returned (.tuple #[]) ∧ Row w' gx (subL k xs ys) ∧ Row w' gb (subL k us vs) ∧ Kp (fun i => i = gx ∨ i = gb) w w' := by
  have HX := Lib.hid hxl
  have HY := Lib.hid hyl
  have HU := Lib.hid hul
  have HV := Lib.hid hvl
  have l1 := rx.lt
  have l2 := ry.lt
  have l3 := ru.lt
  have l4 := rv.lt
  by_cases hk : k = 0
  · subst hk
    have e1 := subL_zero (hxl.trans hyl.symm)
    have e2 := subL_zero (hul.trans hvl.symm)
    rw [e1, e2]
    have hz : ((tx 0).toList == [48]) = true := by rw [tx_eq_zero]; rfl
    clear hxl hyl hul hvl
    go_enter Tryz.func84, Tryz.ntmps84
    go_wp2
    (try simp only [Exit.inBlock, Exit.then]); refine bodyPost_ret (results_none rfl _ _ _) rfl ?_
    have hb := allocs3 w (.cells #[.slice (some ⟨gx, 0, none⟩) n c1, .slice (some ⟨gb, 0, none⟩) m c2] 90) (.cells #[.string (tx 0)] 38) (.cells #[.slice (some ⟨hx, 0, none⟩) n c3, .slice (some ⟨hb, 0, none⟩) m c4] 90)
    exact ⟨rfl, rx.nb hb, ru.nb hb, Kp.of_below hb⟩
  · have hz : ((tx k).toList == [48]) = false := by rw [tx_eq_zero, decide_eq_false hk]
    have LT := Lib.hid fun (W : World) (c1 c2 : Nat) (kb : Nat) (h1 : GOk W) (h2 : ∀ W', Kp (· = gx) W W' → GOk W') (h3 : Row W gx xs) (h4 : Row W hx ys) (h5 : W.cell? ⟨kb, 0, none⟩ = some (.string (tx k))) (h6 : kb ≠ gx) =>
      ltake_any W gx hx kb c1 c2 n D D D k xs ys hxl hyl h1 h2 h3 h4 n1 h5 h6 hn fx fy fk hD0 hD0 hD0 (by omega) (by omega)
    have LU := Lib.hid fun (W : World) (c1 c2 : Nat) (kb : Nat) (h1 : GOk W) (h2 : ∀ W', Kp (· = gb) W W' → GOk W') (h3 : Row W gb us) (h4 : Row W hb vs) (h5 : W.cell? ⟨kb, 0, none⟩ = some (.string (tx k))) (h6 : kb ≠ gb) =>
      ltake_any W gb hb kb c1 c2 m D D D k us vs hul hvl h1 h2 h3 h4 n2 h5 h6 hm fu fv fk hD0 hD0 hD0 (by omega) (by omega)
    clear hxl hyl hul hvl fx fy fu fv fk hk
    go_enter Tryz.func84, Tryz.ntmps84
    go_wp2_with (first
      | (go_at_call 125; have _t := hk1; go_loud (refine (LU.out _ _ _ _ hg1 (fun W' hW' => hg1.keep hB (by intro i hi; omega) hW') hu1 hv1 hc3 (by omega)).mono ?_; rintro e w2 ⟨rfl, hr2, hk2⟩))
      | (go_at_call 125; go_loud (refine (LT.out _ _ _ _ (hG.below (allocs3 w _ _ _)) (fun W' hW' => (hG.below (allocs3 w _ _ _)).keep hB (by intro i hi; omega) hW') (rx.nb (allocs3 w _ _ _)) (ry.nb (allocs3 w _ _ _)) (allocs3_1 _ _ _ _ _) (by omega)).mono ?_; rintro e w1 ⟨rfl, hr1, hk1⟩; have hg1 : GOk w1 := (hG.below (allocs3 w _ _ _)).keep hB (by intro i hi; omega) hk1; have hc1 := hk1.cell (allocs3_0 _ _ _ _ _ _) (by show ¬ w.heap.size = gx; omega); have hc2 := hk1.cell (allocs3_2 _ _ _ _ _ _) (by show ¬ w.heap.size + 1 + 1 = gx; omega); have hc3 := hk1.cell (allocs3_1 _ _ _ _ _) (by show ¬ w.heap.size + 1 = gx; omega); have hu1 := (ru.nb (allocs3 w _ _ _)).kp hk1 (Ne.symm n3); have hv1 := (rv.nb (allocs3 w _ _ _)).kp hk1 (by omega); have hkk := (Kp.of_below (S := (· = gx)) (allocs3 w _ _ _)).trans hk1)))
    all_goals
      go_end0
      exact ⟨rfl, hr1.kp hk2 n3, hr2, (hkk.mono (by intro i hi; exact .inl hi)).trans (hk2.mono (by intro i hi; exact .inr hi))⟩
end Go.Proofs.YtmfkpmepgbjmkaaGreatDoor

namespace Go.Proofs.YtmfkpmepgbjmkaaGreatDoor
open Go.RowKit

def negL (l : List Int) : List Int := l.map (fun x => -x)
/-- Up to place i the signs are changed. -/
def Ngi (i : Nat) (xs l : List Int) : Prop := l = negL (xs.take i) ++ xs.drop i
theorem Ngi.start (xs : List Int) : Ngi 0 xs xs := by simp [Ngi, negL]
theorem Ngi.len {i : Nat} {xs l : List Int} (h : Ngi i xs l) (hi : i ≤ xs.length) : l.length = xs.length := by
  subst h
  simp [negL]
  omega
theorem Ngi.get {i : Nat} {xs l : List Int} (h : Ngi i xs l) (hi : i < xs.length) : l.getD i 0 = xs.getD i 0 := by
  subst h
  rw [List.getD_eq_getElem?_getD, List.getElem?_append_right (by simp [negL]; omega), List.getD_eq_getElem?_getD, List.getElem?_drop]
  congr 2
  simp [negL]
  omega
theorem Ngi.step {i : Nat} {xs l : List Int} (h : Ngi i xs l) (hi : i < xs.length) : Ngi (i + 1) xs (l.set i (-(xs.getD i 0))) := by
  have e1 : xs.take (i + 1) = xs.take i ++ [xs.getD i 0] := by
    rw [List.take_add_one, List.getD_eq_getElem?_getD, List.getElem?_eq_getElem hi]; rfl
  have e3 : xs.drop i = xs.getD i 0 :: xs.drop (i + 1) := by
    rw [List.drop_eq_getElem_cons hi, List.getD_eq_getElem?_getD, List.getElem?_eq_getElem hi]; rfl
  unfold Ngi at *
  rw [h, e1, e3]
  unfold negL
  rw [List.map_append, List.append_assoc]
  have e4 : i = ((xs.take i).map (fun x => -x)).length := by simp; omega
  have e5 : ∀ (A B : List Int) (z z' : Int), i = A.length → (A ++ z :: B).set i z' = A ++ ([z'] ++ B) := fun A B z z' hA => by
    subst hA
    simp
  exact e5 _ _ _ _ e4
theorem Ngi.done {xs l : List Int} (h : Ngi xs.length xs l) : l = negL xs := by
  unfold Ngi at h
  rw [h, List.take_length, List.drop_length, List.append_nil]

theorem alloc2_0 (w : World) (a b : Value) (t : TypeId) (o : Obj) : ((w.alloc o).alloc (.cells #[a, b] t)).cell? ⟨w.heap.size + 1, 0, none⟩ = some a := by
  simp only [World.cell?, World.alloc, Array.getElem?_push, Array.size_push]
  repeat (first | rw [if_neg (by omega)] | rw [if_pos (by omega)])
  rfl
theorem alloc2_1 (w : World) (a b : Value) (t : TypeId) (o : Obj) : ((w.alloc o).alloc (.cells #[a, b] t)).cell? ⟨w.heap.size + 1, 1, none⟩ = some b := by
  simp only [World.cell?, World.alloc, Array.getElem?_push, Array.size_push]
  repeat (first | rw [if_neg (by omega)] | rw [if_pos (by omega)])
  rfl
set_option maxRecDepth 100000 in
set_option maxHeartbeats 1600000 in
theorem turn_any (w : World) (B gx gb c1 c2 n m D : Nat) (xs us : List Int) (hxl : xs.length = n) (hul : us.length = m) (hG : GOk w) (hB : Gb B) (bx : B ≤ gx) (bb : B ≤ gb)
    (rx : Row w gx xs) (ru : Row w gb us) (n3 : gx ≠ gb) (hn : n ≤ 1000) (hm : m ≤ 1000)
    (fx : Lt10s D xs) (fu : Lt10s D us) (hD0 : 1 ≤ D) (hD : D ≤ 4000000000) :
    Calls Tryz.prog 83 #[.agg #[.slice (some ⟨gx, 0, none⟩) n c1, .slice (some ⟨gb, 0, none⟩) m c2]] w
      fun e w' => e = .returned (.tuple #[]) ∧ Row w' gx (negL xs) ∧ Row w' gb (negL us) ∧ Kp (fun i => i = gx ∨ i = gb) w w' := by
  have HX := Lib.hid hxl
  have HU := Lib.hid hul
  have l1 := rx.lt
  have l3 := ru.lt
  have HF := Lib.hid (And.intro fx fu)
  clear hxl hul fx fu
  go_enter Tryz.func83, Tryz.ntmps83
  go_wp2_with fail
  have W1 : Below w.heap.size w ((w.alloc (.cells #[.slice (some ⟨gx, 0, none⟩) n c1, .slice (some ⟨gb, 0, none⟩) m c2] 90)).alloc (.cells #[.slice (some ⟨gx, 0, none⟩) n c1, .slice (some ⟨gb, 0, none⟩) m c2] 88)) := nb_trans (nb_alloc _ _) (nb_alloc _ _)
  go_loopw [12] (fun s wr => ∃ (i : Nat), i ≤ 2 ∧ s = .int .i64 i ∧ Kp (fun i => i = gx ∨ i = gb) w wr ∧ wr.cell? ⟨w.heap.size + 1, 0, none⟩ = some (.slice (some ⟨gx, 0, none⟩) n c1) ∧ wr.cell? ⟨w.heap.size + 1, 1, none⟩ = some (.slice (some ⟨gb, 0, none⟩) m c2) ∧
    Row wr gx (if 0 < i then negL xs else xs) ∧ Row wr gb (if 1 < i then negL us else us)) (fun s _ => 2 - (intOf s).toNat)
  case atStart => exact ⟨0, by omega, rfl, Kp.of_below W1, alloc2_0 _ _ _ _ _, alloc2_1 _ _ _ _ _, rx.nb W1, ru.nb W1⟩
  case round =>
    obtain ⟨i, hi, rfl, hW, hc0, hc1, hrx, hru⟩ := hrel
    have hi3 : i = 0 ∨ i = 1 ∨ i = 2 := by omega
    rcases hi3 with rfl | rfl | rfl
    · rw [if_neg (by omega)] at hrx hru
      go_wp2_with fail
      go_loopw [18] (fun s wr' => ∃ (j : Nat) (l : List Int), j ≤ n ∧ s = .int .i64 j ∧ Row wr' gx l ∧ Hid (Ngi j xs l) ∧ Kp (· = gx) wr wr') (fun s _ => n - (intOf s).toNat)
      case atStart => exact ⟨0, xs, Nat.zero_le _, rfl, hrx, Ngi.start xs, Kp.refl _ _⟩
      case round =>
        rename_i wq
        obtain ⟨j, l, hj, rfl, hr, ht, hkq⟩ := hrel
        by_cases hlt : j < n
        · have hxi := hr.cell (i := j) (by rw [ht.out.len (by rw [HX.out]; omega), HX.out]; exact hlt)
          have hzi := hr.frozen j
          rw [ht.out.get (by rw [HX.out]; exact hlt)] at hxi
          have hst := Lib.hid (ht.out.step (by rw [HX.out]; exact hlt))
          have ZX := Lib.hid ((HF.out.1.at_ j).za (by omega) hD0)
          obtain ⟨x, hxx⟩ : ∃ x, x = xs.getD j 0 := ⟨_, rfl⟩
          rw [← hxx] at hxi hst ZX
          clear hxx
          go_wp2_with (go_at_call 124; refine (neg_any x ZX.out.sz _).mono ?_; rintro e w' ⟨rfl, hb1⟩; have hf1 : w'.frozen? ⟨gx, j, none⟩ = false := frozenB hb1 (v := .string (tx x)) (by assumption) (by assumption); have hc1 : w'.cell? ⟨gx, j, none⟩ = some (.string (tx x)) := cellB hb1 (by assumption))
          go_roundw
          case rel => (repeat apply Exists.intro); refine ⟨?_, rfl⟩; exact ⟨j + 1, _, by omega, by go_num, (hr.nb hb1).set j _, hst, (hkq.nb hb1).set (p := ⟨gx, j, none⟩) rfl _⟩
          case measure => (simp [intOf]) <;> omega
        · obtain rfl : j = n := by omega
          go_wp2_with fail
          go_roundw
          case rel =>
            have hd := ht.out
            rw [← HX.out] at hd
            have e := hd.done
            subst e
            refine ⟨1, by omega, by go_num, hW.trans (hkq.mono (by intro i hi; exact .inl hi)), ?_, ?_, ?_, ?_⟩
            · exact hkq.cell hc0 (by show ¬ w.heap.size + 1 = gx; omega)
            · exact hkq.cell hc1 (by show ¬ w.heap.size + 1 = gx; omega)
            · exact hr
            · exact hru.kp hkq (Ne.symm n3)
          case measure => (simp [intOf]) <;> omega
    · rw [if_pos (by omega)] at hrx
      rw [if_neg (by omega)] at hru
      go_wp2_with fail
      go_loopw [18] (fun s wr' => ∃ (j : Nat) (l : List Int), j ≤ m ∧ s = .int .i64 j ∧ Row wr' gb l ∧ Hid (Ngi j us l) ∧ Kp (· = gb) wr wr') (fun s _ => m - (intOf s).toNat)
      case atStart => exact ⟨0, us, Nat.zero_le _, rfl, hru, Ngi.start us, Kp.refl _ _⟩
      case round =>
        rename_i wq
        obtain ⟨j, l, hj, rfl, hr, ht, hkq⟩ := hrel
        by_cases hlt : j < m
        · have hxi := hr.cell (i := j) (by rw [ht.out.len (by rw [HU.out]; omega), HU.out]; exact hlt)
          have hzi := hr.frozen j
          rw [ht.out.get (by rw [HU.out]; exact hlt)] at hxi
          have hst := Lib.hid (ht.out.step (by rw [HU.out]; exact hlt))
          have ZX := Lib.hid ((HF.out.2.at_ j).za (by omega) hD0)
          obtain ⟨x, hxx⟩ : ∃ x, x = us.getD j 0 := ⟨_, rfl⟩
          rw [← hxx] at hxi hst ZX
          clear hxx
          go_wp2_with (go_at_call 124; refine (neg_any x ZX.out.sz _).mono ?_; rintro e w' ⟨rfl, hb1⟩; have hf1 : w'.frozen? ⟨gb, j, none⟩ = false := frozenB hb1 (v := .string (tx x)) (by assumption) (by assumption); have hc1 : w'.cell? ⟨gb, j, none⟩ = some (.string (tx x)) := cellB hb1 (by assumption))
          go_roundw
          case rel => (repeat apply Exists.intro); refine ⟨?_, rfl⟩; exact ⟨j + 1, _, by omega, by go_num, (hr.nb hb1).set j _, hst, (hkq.nb hb1).set (p := ⟨gb, j, none⟩) rfl _⟩
          case measure => (simp [intOf]) <;> omega
        · obtain rfl : j = m := by omega
          go_wp2_with fail
          go_roundw
          case rel =>
            have hd := ht.out
            rw [← HU.out] at hd
            have e := hd.done
            subst e
            refine ⟨2, by omega, by go_num, hW.trans (hkq.mono (by intro i hi; exact .inr hi)), ?_, ?_, ?_, ?_⟩
            · exact hkq.cell hc0 (by show ¬ w.heap.size + 1 = gb; omega)
            · exact hkq.cell hc1 (by show ¬ w.heap.size + 1 = gb; omega)
            · exact hrx.kp hkq n3
            · exact hr
          case measure => (simp [intOf]) <;> omega
    · rw [if_pos (by omega)] at hrx hru
      go_wp2_with fail
      go_end0
      exact ⟨rfl, hrx, hru, hW⟩
end Go.Proofs.YtmfkpmepgbjmkaaGreatDoor

namespace Go.Proofs.YtmfkpmepgbjmkaaGreatDoor
open Go.RowKit

/-- A line in memory: the blocks and capacities of its two rows, and what they hold. -/
structure LR where
  gx : Nat
  cx : Nat
  gb : Nat
  cb : Nat
  x : List Int
  b : List Int
def LR.ln (r : LR) : Ln.Ln := (r.x, r.b)
def LR.xv (n : Nat) (r : LR) : Value := .slice (some ⟨r.gx, 0, none⟩) n r.cx
def LR.bv (m : Nat) (r : LR) : Value := .slice (some ⟨r.gb, 0, none⟩) m r.cb
def LR.blk (r : LR) : Nat × Nat := (r.gx, r.gb)
def Ap (p q : Nat × Nat) : Prop := p.1 ≠ q.1 ∧ p.1 ≠ q.2 ∧ p.2 ≠ q.1 ∧ p.2 ≠ q.2
theorem Ap.symm {p q : Nat × Nat} (h : Ap p q) : Ap q p := ⟨h.1.symm, h.2.2.1.symm, h.2.1.symm, h.2.2.2.symm⟩
structure Lns (n m : Nat) (w : World) (B G : Nat) (rs : List LR) : Prop where
  block : ∃ cur : Array Value, w.heap[G]? = some (.cells cur 90 (0, 0)) ∧ ∀ i r, rs[i]? = some r → cur[2 * i]? = some (r.xv n) ∧ cur[2 * i + 1]? = some (r.bv m)
  rows : ∀ r ∈ rs, Row w r.gx r.x ∧ Row w r.gb r.b
  size : ∀ r ∈ rs, r.x.length = n ∧ r.b.length = m
  low : B ≤ G ∧ ∀ r ∈ rs, B ≤ r.gx ∧ B ≤ r.gb
  own : ∀ r ∈ rs, r.gx ≠ r.gb ∧ r.gx ≠ G ∧ r.gb ≠ G
  apart : (rs.map LR.blk).Pairwise Ap

theorem Lns.lt {n m B G : Nat} {w : World} {rs : List LR} (h : Lns n m w B G rs) : G < w.heap.size := by
  obtain ⟨cur, hc, _⟩ := h.block
  exact (Array.getElem?_eq_some_iff.1 hc).1
theorem Lns.xcell {n m B G : Nat} {w : World} {rs : List LR} (h : Lns n m w B G rs) {i : Nat} {r : LR} (hi : rs[i]? = some r) : w.cell? ⟨G, 2 * i, none⟩ = some (r.xv n) := by
  obtain ⟨cur, hc, ht⟩ := h.block
  simp only [World.cell?, hc]
  exact (ht i r hi).1
theorem Lns.bcell {n m B G : Nat} {w : World} {rs : List LR} (h : Lns n m w B G rs) {i : Nat} {r : LR} (hi : rs[i]? = some r) : w.cell? ⟨G, 2 * i + 1, none⟩ = some (r.bv m) := by
  obtain ⟨cur, hc, ht⟩ := h.block
  simp only [World.cell?, hc]
  exact (ht i r hi).2
theorem Lns.frozen {n m B G : Nat} {w : World} {rs : List LR} (h : Lns n m w B G rs) (i : Nat) : w.frozen? ⟨G, i, none⟩ = false := by
  obtain ⟨cur, hc, _⟩ := h.block
  simp [World.frozen?, hc]
theorem Lns.mem {rs : List LR} {i : Nat} {r : LR} (hi : rs[i]? = some r) : r ∈ rs := List.mem_of_getElem? hi
theorem Lns.apart_at {n m B G : Nat} {w : World} {rs : List LR} (h : Lns n m w B G rs) {i j : Nat} {r s : LR} (hi : rs[i]? = some r) (hj : rs[j]? = some s) (hij : i ≠ j) : Ap r.blk s.blk := by
  have hp := List.pairwise_iff_getElem.1 h.apart
  obtain ⟨hi1, hi2⟩ := List.getElem?_eq_some_iff.1 hi
  obtain ⟨hj1, hj2⟩ := List.getElem?_eq_some_iff.1 hj
  rcases Nat.lt_or_gt_of_ne hij with h1 | h1
  · have := hp i j (by simpa using hi1) (by simpa using hj1) h1
    simp only [List.getElem_map, hi2, hj2] at this
    exact this
  · have := hp j i (by simpa using hj1) (by simpa using hi1) h1
    simp only [List.getElem_map, hi2, hj2] at this
    exact this.symm
theorem Lns.kp {n m B G : Nat} {w w' : World} {S : Nat → Prop} {rs : List LR} (h : Lns n m w B G rs) (hk : Kp S w w') (h0 : ¬ S G) (h1 : ∀ r ∈ rs, ¬ S r.gx ∧ ¬ S r.gb) : Lns n m w' B G rs := by
  obtain ⟨cur, hc, ht⟩ := h.block
  exact ⟨⟨cur, (hk.block _ h.lt h0).trans hc, ht⟩, fun r hr => ⟨(h.rows r hr).1.kp hk (h1 r hr).1, (h.rows r hr).2.kp hk (h1 r hr).2⟩, h.size, h.low, h.own, h.apart⟩
theorem Lns.nb {n m B G : Nat} {w w' : World} {rs : List LR} (h : Lns n m w B G rs) (hb : Below w.heap.size w w') : Lns n m w' B G rs :=
  h.kp (S := fun _ => False) (Kp.of_below hb) (fun h => h) (fun _ _ => ⟨fun h => h, fun h => h⟩)
theorem Lns.drew {n m B G : Nat} {w : World} {rs : List LR} (h : Lns n m w B G rs) : Lns n m w.drew B G rs := h.nb (nb_drew w)
/-- One line's rows change. -/
theorem Lns.write {n m B G : Nat} {w w' : World} {rs : List LR} (h : Lns n m w B G rs) {i : Nat} {r : LR} (hi : rs[i]? = some r) {x b : List Int} (hx : Row w' r.gx x) (hb : Row w' r.gb b) (lx : x.length = n) (lb : b.length = m)
    (hk : Kp (fun j => j = r.gx ∨ j = r.gb) w w') : Lns n m w' B G (rs.set i { r with x := x, b := b }) := by
  obtain ⟨cur, hc, ht⟩ := h.block
  have hr := List.mem_of_getElem? hi
  obtain ⟨hil, hie⟩ := List.getElem?_eq_some_iff.1 hi
  have ho := h.own r hr
  refine ⟨⟨cur, (hk.block _ h.lt (by rintro (h | h); exact ho.2.1 h.symm; exact ho.2.2 h.symm)).trans hc, ?_⟩, ?_, ?_, ⟨h.low.1, ?_⟩, ?_, ?_⟩
  · intro j s hj
    rw [List.getElem?_set] at hj
    by_cases hij : i = j
    · subst hij
      rw [if_pos rfl, if_pos hil] at hj
      cases hj
      exact ht i r hi
    · rw [if_neg hij] at hj
      exact ht j s hj
  · intro s hs
    obtain ⟨j, hj⟩ := List.mem_iff_getElem?.1 hs
    rw [List.getElem?_set] at hj
    by_cases hij : i = j
    · subst hij
      rw [if_pos rfl, if_pos hil] at hj
      cases hj
      exact ⟨hx, hb⟩
    · rw [if_neg hij] at hj
      have ha := h.apart_at hi hj hij
      have hs' := List.mem_of_getElem? hj
      exact ⟨(h.rows s hs').1.kp hk (by rintro (h | h); exact ha.1 h.symm; exact ha.2.2.1 h.symm), (h.rows s hs').2.kp hk (by rintro (h | h); exact ha.2.1 h.symm; exact ha.2.2.2 h.symm)⟩
  · intro s hs
    rcases List.mem_or_eq_of_mem_set hs with hs | rfl
    · exact h.size s hs
    · exact ⟨lx, lb⟩
  · intro s hs
    rcases List.mem_or_eq_of_mem_set hs with hs | rfl
    · exact h.low.2 s hs
    · exact h.low.2 r hr
  · intro s hs
    rcases List.mem_or_eq_of_mem_set hs with hs | rfl
    · exact h.own s hs
    · exact ho
  · have e : (rs.set i { r with x := x, b := b }).map LR.blk = rs.map LR.blk := by
      rw [List.map_set]
      show (rs.map LR.blk).set i r.blk = _
      rw [show r.blk = (rs.map LR.blk)[i]'(by simpa using hil) from by simp [hie], List.set_getElem_self]
    rw [e]
    exact h.apart

/-- Two lines change places. -/
def swp (rs : List LR) (i j : Nat) (r s : LR) : List LR := (rs.set i s).set j r
theorem swp_perm {rs : List LR} {i j : Nat} {r s : LR} (hi : rs[i]? = some r) (hj : rs[j]? = some s) : (swp rs i j r s).Perm rs := by
  obtain ⟨hi1, hi2⟩ := List.getElem?_eq_some_iff.1 hi
  obtain ⟨hj1, hj2⟩ := List.getElem?_eq_some_iff.1 hj
  subst hi2
  subst hj2
  exact List.set_set_perm hi1 hj1
theorem Lns.perm_facts {n m B G : Nat} {w w' : World} {rs rs' : List LR} (h : Lns n m w B G rs) (hp : rs'.Perm rs) (hk : Kp (· = G) w w')
    (hb : ∃ cur : Array Value, w'.heap[G]? = some (.cells cur 90 (0, 0)) ∧ ∀ i r, rs'[i]? = some r → cur[2 * i]? = some (r.xv n) ∧ cur[2 * i + 1]? = some (r.bv m)) : Lns n m w' B G rs' := by
  refine ⟨hb, fun r hr => ?_, fun r hr => h.size r (hp.mem_iff.1 hr), ⟨h.low.1, fun r hr => h.low.2 r (hp.mem_iff.1 hr)⟩, fun r hr => h.own r (hp.mem_iff.1 hr), ?_⟩
  · have hr' := hp.mem_iff.1 hr
    exact ⟨(h.rows r hr').1.kp hk (h.own r hr').2.1, (h.rows r hr').2.kp hk (h.own r hr').2.2⟩
  · exact ((hp.map LR.blk).pairwise_iff (fun h => Ap.symm h)).2 h.apart
theorem heap_set (w : World) {G : Nat} {cur : Array Value} {t : TypeId} (hc : w.heap[G]? = some (.cells cur t (0, 0))) (i : Nat) (v : Value) : (w.setCell ⟨G, i, none⟩ v).heap[G]? = some (.cells (cur.setIfInBounds i v) t (0, 0)) := by
  simp [World.setCell, Array.getElem?_modify, hc]
theorem Lns.swap {n m B G : Nat} {w : World} {rs : List LR} (h : Lns n m w B G rs) {i j : Nat} {r s : LR} (hi : rs[i]? = some r) (hj : rs[j]? = some s) :
    Lns n m ((((w.setCell ⟨G, 2 * i, none⟩ (s.xv n)).setCell ⟨G, 2 * i + 1, none⟩ (s.bv m)).setCell ⟨G, 2 * j, none⟩ (r.xv n)).setCell ⟨G, 2 * j + 1, none⟩ (r.bv m)) B G (swp rs i j r s) := by
  refine h.perm_facts (swp_perm hi hj) ((((((Kp.refl (· = G) w).set (p := ⟨G, 2 * i, none⟩) rfl _).set (p := ⟨G, 2 * i + 1, none⟩) rfl _).set (p := ⟨G, 2 * j, none⟩) rfl _).set (p := ⟨G, 2 * j + 1, none⟩) rfl _)) ?_
  obtain ⟨cur, hc, ht⟩ := h.block
  obtain ⟨hi1, hi2⟩ := List.getElem?_eq_some_iff.1 hi
  obtain ⟨hj1, hj2⟩ := List.getElem?_eq_some_iff.1 hj
  have lt : ∀ (a : Nat) (v : Value), cur[a]? = some v → a < cur.size := fun a v hv => (Array.getElem?_eq_some_iff.1 hv).1
  have li := lt _ _ (ht i r hi).2
  have lj := lt _ _ (ht j s hj).2
  refine ⟨_, heap_set _ (heap_set _ (heap_set _ (heap_set _ hc _ _) _ _) _ _) _ _, ?_⟩
  intro k q hk
  unfold swp at hk
  rw [List.getElem?_set, List.getElem?_set] at hk
  simp only [Array.getElem?_setIfInBounds, List.length_set, Array.size_setIfInBounds] at hk ⊢
  by_cases hkj : j = k
  · subst hkj
    rw [if_pos rfl, if_pos hj1] at hk
    cases hk
    constructor
    · rw [if_neg (by omega), if_pos rfl, if_pos (by omega)]
    · rw [if_pos rfl, if_pos (by omega)]
  · rw [if_neg hkj] at hk
    by_cases hki : i = k
    · subst hki
      rw [if_pos rfl, if_pos hi1] at hk
      cases hk
      constructor
      · rw [if_neg (by omega), if_neg (by omega), if_neg (by omega), if_pos rfl, if_pos (by omega)]
      · rw [if_neg (by omega), if_neg (by omega), if_pos rfl, if_pos (by omega)]
    · rw [if_neg hki] at hk
      constructor
      · rw [if_neg (by omega), if_neg (by omega), if_neg (by omega), if_neg (by omega)]
        exact (ht k q hk).1
      · rw [if_neg (by omega), if_neg (by omega), if_neg (by omega), if_neg (by omega)]
        exact (ht k q hk).2
theorem Lns.below_swap {n m B G : Nat} {w w' : World} {rs : List LR} (h : Lns n m w B G rs) (hk : Kp (· = G) w w') : Below B w w' :=
  hk.below (Nat.le_trans h.low.1 (Nat.le_of_lt h.lt)) (fun i hi => by have := h.low.1; omega)
theorem Lns.below_write {n m B G : Nat} {w w' : World} {rs : List LR} (h : Lns n m w B G rs) {r : LR} (hr : r ∈ rs) (hk : Kp (fun j => j = r.gx ∨ j = r.gb) w w') : Below B w w' :=
  hk.below (Nat.le_trans h.low.1 (Nat.le_of_lt h.lt)) (fun i hi => by have := h.low.2 r hr; omega)
theorem Below.of_nb {B : Nat} {w w' : World} (hB : B ≤ w.heap.size) (h : Below w.heap.size w w') : Below B w w' := h.mono hB
theorem Lns.base {n m B G : Nat} {w : World} {rs : List LR} (h : Lns n m w B G rs) : B ≤ w.heap.size := Nat.le_trans h.low.1 (Nat.le_of_lt h.lt)

/-- The line less a multiple of the top. -/
def LR.red (c : Nat) (top r : LR) : LR := { r with x := subL (Ln.fq (Ln.at_ c r.ln) (Ln.at_ c top.ln)) r.x top.x, b := subL (Ln.fq (Ln.at_ c r.ln) (Ln.at_ c top.ln)) r.b top.b }
theorem LR.red_ln (c : Nat) (top r : LR) : (r.red c top |>.ln) = (r.red c top).ln := rfl
theorem red_ln (c : Nat) (top r : LR) : (LR.red c top r).ln = Ln.lessq c top.ln r.ln := rfl
/-- The first j lines of R are reduced. -/
def part (c : Nat) (top : LR) (j : Nat) (R : List LR) : List LR := (R.take j).map (LR.red c top) ++ R.drop j
theorem part_zero (c : Nat) (top : LR) (R : List LR) : part c top 0 R = R := by simp [part]
theorem part_all (c : Nat) (top : LR) (R : List LR) : part c top R.length R = R.map (LR.red c top) := by simp [part]
theorem part_len (c : Nat) (top : LR) (j : Nat) (R : List LR) (hj : j ≤ R.length) : (part c top j R).length = R.length := by simp [part]; omega
theorem part_at (c : Nat) (top : LR) (j : Nat) (R : List LR) {r : LR} (hr : R[j]? = some r) : (part c top j R)[j]? = some r := by
  obtain ⟨hj, he⟩ := List.getElem?_eq_some_iff.1 hr
  unfold part
  rw [List.getElem?_append_right (by simp; omega), List.getElem?_drop]
  simp only [List.length_map, List.length_take]
  rw [show j + (j - min j R.length) = j by omega]
  exact hr
theorem part_step (c : Nat) (top : LR) (j : Nat) (R : List LR) {r : LR} (hr : R[j]? = some r) : (part c top j R).set j (LR.red c top r) = part c top (j + 1) R := by
  obtain ⟨hj, he⟩ := List.getElem?_eq_some_iff.1 hr
  unfold part
  rw [List.take_succ_eq_append_getElem hj, List.map_append, List.append_assoc, List.drop_eq_getElem_cons hj]
  have e5 : ∀ (A C : List LR) (z z' : LR), j = A.length → (A ++ z :: C).set j z' = A ++ ([z'] ++ C) := fun A C z z' hA => by
    subst hA
    simp
  rw [e5 _ _ _ _ (by simp; omega), he]
  rfl
theorem map_part (c : Nat) (top : LR) (j : Nat) (R : List LR) : (part c top j R).map LR.ln = (R.take j).map (fun r => Ln.lessq c top.ln r.ln) ++ (R.drop j).map LR.ln := by
  unfold part
  rw [List.map_append, List.map_map]
  rfl
end Go.Proofs.YtmfkpmepgbjmkaaGreatDoor
