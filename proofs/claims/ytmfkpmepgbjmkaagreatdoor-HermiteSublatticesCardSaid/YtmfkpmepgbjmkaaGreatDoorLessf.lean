/-
  WALKS: hermite's line.less.
-/
import Derived.Test.YtmfkpmepgbjmkaaGreatDoorLess
import Derived.Test.YtmfkpmepgbjmkaaGreatDoorEch
set_option linter.unusedVariables false
set_option linter.unusedSimpArgs false
namespace Go.Proofs.YtmfkpmepgbjmkaaGreatDoor
open Go.RowKit

/-- The laid variables' blocks stand below B. -/
def Gb (B : Nat) : Prop := ∀ n g, (n = "internal/strconv.uint64pow10" ∨ n = "strconv.ErrRange" ∨ n = "strconv.ErrSyntax") → Tryz.prog.globalNamed n = some g → g < B
theorem GOk.gb {w : World} (h : GOk w) : Gb w.heap.size := by
  obtain ⟨t, ⟨a, b, r⟩, ⟨c, d, s⟩⟩ := h
  intro n g hn hg
  rcases hn with rfl | rfl | rfl
  · obtain ⟨g', hg', hl⟩ := var_lt t; rw [hg] at hg'; cases hg'; exact hl
  · obtain ⟨g', hg', hl⟩ := var_lt r; rw [hg] at hg'; cases hg'; exact hl
  · obtain ⟨g', hg', hl⟩ := var_lt s; rw [hg] at hg'; cases hg'; exact hl
theorem Gb.mono {B C : Nat} (h : Gb B) (hBC : B ≤ C) : Gb C := fun n g hn hg => Nat.lt_of_lt_of_le (h n g hn hg) hBC
theorem GOk.keep {B : Nat} {S : Nat → Prop} {w W : World} (h : GOk w) (hB : Gb B) (hS : ∀ i, S i → B ≤ i) (hk : Kp S w W) : GOk W :=
  h.kp hk fun n g hn hg hs => by have := hB n g hn hg; have := hS g hs; omega
theorem subL_zero {a b : List Int} (h : a.length = b.length) : subL 0 a b = a := by
  unfold subL
  apply List.ext_getElem
  · simp [h]
  · intro i h1 h2
    simp
theorem subL_nil (k : Int) (a : List Int) : subL k a [] = [] := by simp [subL]

theorem ltake_nil (w : World) (v : Value) (kb : Nat) :
    Calls Tryz.prog 125 #[v, .slice none 0 0, .pointer (some ⟨kb, 0, none⟩)] w fun e w' => e = .returned (.tuple #[]) ∧ w' = w := by
  go_enter Tryz.func125, Tryz.ntmps125
  go_wp2_with fail
  go_loopw [9] (fun s wr => s = .int .i64 0 ∧ wr = w) (fun s _ => 0)
  case atStart => exact ⟨rfl, rfl⟩
  case round =>
    obtain ⟨rfl, rfl⟩ := hrel
    go_wp2_with fail
    go_end0
    exact ⟨rfl, rfl⟩

theorem Lt10.zero (D : Nat) : Lt10 D 0 := by show (0 : Nat) < 10 ^ D; exact Nat.pow_pos (by decide)

theorem allocs3 (w : World) (o1 o2 o3 : Obj) : Below w.heap.size w (((w.alloc o1).alloc o2).alloc o3) := nb_trans (nb_alloc w _) (nb_trans (nb_alloc _ _) (nb_alloc _ _))
theorem allocs3_0 (w : World) (a b : Value) (t : TypeId) (o2 o3 : Obj) : (((w.alloc (.cells #[a, b] t)).alloc o2).alloc o3).cell? ⟨w.heap.size, 1, none⟩ = some b := by
  simp only [World.cell?, World.alloc, Array.getElem?_push, Array.size_push]
  repeat (first | rw [if_neg (by omega)] | rw [if_pos (by omega)])
  rfl
theorem allocs3_1 (w : World) (v : Value) (t : TypeId) (o1 o3 : Obj) : (((w.alloc o1).alloc (.cells #[v] t)).alloc o3).cell? ⟨w.heap.size + 1, 0, none⟩ = some v := by
  simp only [World.cell?, World.alloc, Array.getElem?_push, Array.size_push]
  repeat (first | rw [if_neg (by omega)] | rw [if_pos (by omega)])
  rfl
theorem allocs3_2 (w : World) (a b : Value) (t : TypeId) (o1 o2 : Obj) : (((w.alloc o1).alloc o2).alloc (.cells #[a, b] t)).cell? ⟨w.heap.size + 1 + 1, 1, none⟩ = some b := by
  simp only [World.cell?, World.alloc, Array.getElem?_push, Array.size_push]
  repeat (first | rw [if_neg (by omega)] | rw [if_pos (by omega)])
  rfl

set_option maxRecDepth 100000 in
set_option maxHeartbeats 1600000 in
theorem less_any (w : World) (B gx gb hx hb c1 c2 c3 c4 n m D : Nat) (k : Int) (xs ys us vs : List Int) (hxl : xs.length = n) (hyl : ys.length = n) (hul : us.length = m) (hvl : vs.length = m) (hG : GOk w) (hB : Gb B) (bx : B ≤ gx) (bb : B ≤ gb)
    (rx : Row w gx xs) (ry : Row w hx ys) (ru : Row w gb us) (rv : Row w hb vs) (n1 : gx ≠ hx) (n2 : gb ≠ hb) (n3 : gx ≠ gb) (n4 : gx ≠ hb) (n5 : gb ≠ hx) (hn : n ≤ 1000) (hm : m ≤ 1000)
    (fx : Lt10s D xs) (fy : Lt10s D ys) (fu : Lt10s D us) (fv : Lt10s D vs) (fk : Lt10 D k) (hD0 : 1 ≤ D) (hD : D ≤ 4000000000) :
    Calls Tryz.prog 84 #[.agg #[.slice (some ⟨gx, 0, none⟩) n c1, .slice (some ⟨gb, 0, none⟩) m c2], .string (tx k), .agg #[.slice (some ⟨hx, 0, none⟩) n c3, .slice (some ⟨hb, 0, none⟩) m c4]] w
      fun e w' => e = .returned (.tuple #[]) ∧ Row w' gx (subL k xs ys) ∧ Row w' gb (subL k us vs) ∧ Kp (fun i => i = gx ∨ i = gb) w w' := by
  have HX := Lib.hid hxl
  have HY := Lib.hid hyl
  have HU := Lib.hid hul
  have HV := Lib.hid hvl
  have l1 := rx.lt
  have l2 := ry.lt
  have l3 := ru.lt
  have l4 := rv.lt
  by_cases hk : k = 0
  · subst hk
    have e1 := subL_zero (hxl.trans hyl.symm)
    have e2 := subL_zero (hul.trans hvl.symm)
    rw [e1, e2]
    have hz : ((tx 0).toList == [48]) = true := by rw [tx_eq_zero]; rfl
    clear hxl hyl hul hvl
    go_enter Tryz.func84, Tryz.ntmps84
    go_wp2
    (try simp only [Exit.inBlock, Exit.then]); refine bodyPost_ret (results_none rfl _ _ _) rfl ?_
    have hb := allocs3 w (.cells #[.slice (some ⟨gx, 0, none⟩) n c1, .slice (some ⟨gb, 0, none⟩) m c2] 90) (.cells #[.string (tx 0)] 38) (.cells #[.slice (some ⟨hx, 0, none⟩) n c3, .slice (some ⟨hb, 0, none⟩) m c4] 90)
    exact ⟨rfl, rx.nb hb, ru.nb hb, Kp.of_below hb⟩
  · have hz : ((tx k).toList == [48]) = false := by rw [tx_eq_zero, decide_eq_false hk]
    have LT := Lib.hid fun (W : World) (c1 c2 : Nat) (kb : Nat) (h1 : GOk W) (h2 : ∀ W', Kp (· = gx) W W' → GOk W') (h3 : Row W gx xs) (h4 : Row W hx ys) (h5 : W.cell? ⟨kb, 0, none⟩ = some (.string (tx k))) (h6 : kb ≠ gx) =>
      ltake_any W gx hx kb c1 c2 n D D D k xs ys hxl hyl h1 h2 h3 h4 n1 h5 h6 hn fx fy fk hD0 hD0 hD0 (by omega) (by omega)
    have LU := Lib.hid fun (W : World) (c1 c2 : Nat) (kb : Nat) (h1 : GOk W) (h2 : ∀ W', Kp (· = gb) W W' → GOk W') (h3 : Row W gb us) (h4 : Row W hb vs) (h5 : W.cell? ⟨kb, 0, none⟩ = some (.string (tx k))) (h6 : kb ≠ gb) =>
      ltake_any W gb hb kb c1 c2 m D D D k us vs hul hvl h1 h2 h3 h4 n2 h5 h6 hm fu fv fk hD0 hD0 hD0 (by omega) (by omega)
    clear hxl hyl hul hvl fx fy fu fv fk hk
    go_enter Tryz.func84, Tryz.ntmps84
    go_wp2_with (first
      | (go_at_call 125; have _t := hk1; go_loud (refine (LU.out _ _ _ _ hg1 (fun W' hW' => hg1.keep hB (by intro i hi; omega) hW') hu1 hv1 hc3 (by omega)).mono ?_; rintro e w2 ⟨rfl, hr2, hk2⟩))
      | (go_at_call 125; go_loud (refine (LT.out _ _ _ _ (hG.below (allocs3 w _ _ _)) (fun W' hW' => (hG.below (allocs3 w _ _ _)).keep hB (by intro i hi; omega) hW') (rx.nb (allocs3 w _ _ _)) (ry.nb (allocs3 w _ _ _)) (allocs3_1 _ _ _ _ _) (by omega)).mono ?_; rintro e w1 ⟨rfl, hr1, hk1⟩; have hg1 : GOk w1 := (hG.below (allocs3 w _ _ _)).keep hB (by intro i hi; omega) hk1; have hc1 := hk1.cell (allocs3_0 _ _ _ _ _ _) (by show ¬ w.heap.size = gx; omega); have hc2 := hk1.cell (allocs3_2 _ _ _ _ _ _) (by show ¬ w.heap.size + 1 + 1 = gx; omega); have hc3 := hk1.cell (allocs3_1 _ _ _ _ _) (by show ¬ w.heap.size + 1 = gx; omega); have hu1 := (ru.nb (allocs3 w _ _ _)).kp hk1 (Ne.symm n3); have hv1 := (rv.nb (allocs3 w _ _ _)).kp hk1 (by omega); have hkk := (Kp.of_below (S := (· = gx)) (allocs3 w _ _ _)).trans hk1)))
    all_goals
      go_end0
      exact ⟨rfl, hr1.kp hk2 n3, hr2, (hkk.mono (by intro i hi; exact .inl hi)).trans (hk2.mono (by intro i hi; exact .inr hi))⟩
end Go.Proofs.YtmfkpmepgbjmkaaGreatDoor
