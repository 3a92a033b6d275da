/-
  WALKS: hermite's line.less: its closure, then the function.
-/
import Derived.Test.YtmfkpmepgbjmkaaGreatDoorWdivl
import Derived.Test.YtmfkpmepgbjmkaaGreatDoorLn
set_option linter.unusedVariables false
set_option linter.unusedSimpArgs false
namespace Go.Proofs.YtmfkpmepgbjmkaaGreatDoor
open Go.RowKit

/-- At most D digits. -/
def Lt10 (D : Nat) (x : Int) : Prop := x.natAbs < 10 ^ D
def Lt10s (D : Nat) (l : List Int) : Prop := ∀ x ∈ l, Lt10 D x
theorem Lt10.za {D : Nat} {x : Int} (h : Lt10 D x) (hD : D ≤ 30000000000) (hD0 : 1 ≤ D) : Za x := by
  unfold Za
  have h1 := nat_size x
  have h2 := nDigits_le D x.natAbs h hD0
  rw [← tn_size] at h2
  omega
theorem Lt10.neg {D : Nat} {x : Int} (h : Lt10 D x) : Lt10 D (-x) := by unfold Lt10 at *; rw [Int.natAbs_neg]; exact h
theorem Lt10.mul {D E : Nat} {x y : Int} (h : Lt10 D x) (h' : Lt10 E y) : Lt10 (D + E) (x * y) := by
  unfold Lt10 at *
  rw [Int.natAbs_mul, Nat.pow_add]
  exact Nat.mul_lt_mul'' h h'
theorem Lt10s.at_ {D : Nat} {l : List Int} (h : Lt10s D l) (i : Nat) : Lt10 D (l.getD i 0) := by
  rw [List.getD_eq_getElem?_getD]
  rcases Nat.lt_or_ge i l.length with hi | hi
  · rw [List.getElem?_eq_getElem hi]
    exact h _ (List.getElem_mem hi)
  · rw [List.getElem?_eq_none hi]
    show (0 : Nat) < 10 ^ D
    exact Nat.pow_pos (by decide)

def subL (k : Int) (a b : List Int) : List Int := List.zipWith (fun x y => x - k * y) a b
theorem subL_len {k : Int} {a b : List Int} (h : a.length = b.length) : (subL k a b).length = a.length := by simp [subL, h]
/-- Up to place i the multiple is taken. -/
def Tki (k : Int) (i : Nat) (xs ys l : List Int) : Prop := l = subL k (xs.take i) (ys.take i) ++ xs.drop i
theorem Tki.start (k : Int) (xs ys : List Int) : Tki k 0 xs ys xs := by simp [Tki, subL]
theorem Tki.len {k : Int} {i : Nat} {xs ys l : List Int} (h : Tki k i xs ys l) (hl : xs.length = ys.length) (hi : i ≤ xs.length) : l.length = xs.length := by
  subst h
  simp [subL]
  omega
theorem Tki.get {k : Int} {i : Nat} {xs ys l : List Int} (h : Tki k i xs ys l) (hl : xs.length = ys.length) (hi : i < xs.length) : l.getD i 0 = xs.getD i 0 := by
  subst h
  rw [List.getD_eq_getElem?_getD, List.getElem?_append_right (by simp [subL]; omega), List.getD_eq_getElem?_getD, List.getElem?_drop]
  congr 2
  simp [subL]
  omega
theorem Tki.step {k : Int} {i : Nat} {xs ys l : List Int} (h : Tki k i xs ys l) (hl : xs.length = ys.length) (hi : i < xs.length) : Tki k (i + 1) xs ys (l.set i (xs.getD i 0 - k * ys.getD i 0)) := by
  have hlen := h.len hl (by omega)
  have e1 : xs.take (i + 1) = xs.take i ++ [xs.getD i 0] := by
    rw [List.take_add_one, List.getD_eq_getElem?_getD, List.getElem?_eq_getElem hi]; rfl
  have e2 : ys.take (i + 1) = ys.take i ++ [ys.getD i 0] := by
    rw [List.take_add_one, List.getD_eq_getElem?_getD, List.getElem?_eq_getElem (by omega)]; rfl
  have e3 : xs.drop i = xs.getD i 0 :: xs.drop (i + 1) := by
    rw [List.drop_eq_getElem_cons hi, List.getD_eq_getElem?_getD, List.getElem?_eq_getElem hi]; rfl
  unfold Tki at *
  rw [h, e1, e2, e3]
  unfold subL
  rw [List.zipWith_append (by simp; omega), List.append_assoc]
  have e4 : i = (List.zipWith (fun x y => x - k * y) (xs.take i) (ys.take i)).length := by simp; omega
  have e5 : ∀ (A B : List Int) (z z' : Int), i = A.length → (A ++ z :: B).set i z' = A ++ ([z'] ++ B) := fun A B z z' hA => by
    subst hA
    simp
  exact e5 _ _ _ _ e4
theorem Tki.skip {k : Int} {i : Nat} {xs ys l : List Int} (h : Tki k i xs ys l) (hl : xs.length = ys.length) (hi : i < xs.length) (h0 : ys.getD i 0 = 0) : Tki k (i + 1) xs ys l := by
  have := h.step hl hi
  rw [h0, Int.mul_zero, Int.sub_zero, ← h.get hl hi, List.getD_eq_getElem?_getD, List.getElem?_eq_getElem (by rw [h.len hl (by omega)]; exact hi)] at this
  simpa using this
theorem Tki.done {k : Int} {xs ys l : List Int} (h : Tki k xs.length xs ys l) (hl : xs.length = ys.length) : l = subL k xs ys := by
  unfold Tki at h
  rw [h, List.take_length, hl, List.take_length, ← hl, List.drop_length, List.append_nil]

set_option maxRecDepth 100000 in
set_option maxHeartbeats 1600000 in
theorem ltake_any (w : World) (g h kb c1 c2 n D E K : Nat) (k : Int) (xs ys : List Int) (hxl : xs.length = n) (hyl : ys.length = n) (hG : GOk w) (hGg : ∀ W, Kp (· = g) w W → GOk W)
    (hx : Row w g xs) (hy : Row w h ys) (hgh : g ≠ h) (hkb : w.cell? ⟨kb, 0, none⟩ = some (.string (tx k))) (hgk : kb ≠ g) (hmax : n ≤ 1000)
    (fx : Lt10s D xs) (fy : Lt10s E ys) (fk : Lt10 K k) (hD0 : 1 ≤ D) (hE0 : 1 ≤ E) (hK0 : 1 ≤ K) (hD : D ≤ 10000000000) (hEK : K + E ≤ 10000000000) :
    Calls Tryz.prog 125 #[.slice (some ⟨g, 0, none⟩) n c1, .slice (some ⟨h, 0, none⟩) n c2, .pointer (some ⟨kb, 0, none⟩)] w fun e w' => e = .returned (.tuple #[]) ∧ Row w' g (subL k xs ys) ∧ Kp (· = g) w w' := by
  have HX := Lib.hid hxl
  have HY := Lib.hid hyl
  have HK := Lib.hid hkb
  have HF := Lib.hid (And.intro fx fy)
  have HKZ := Lib.hid (fk.za (by omega) hK0)
  have HGG := Lib.hid hGg
  clear hxl hyl hkb fx fy hGg
  go_enter Tryz.func125, Tryz.ntmps125
  go_wp2_with fail
  go_loopw [9] (fun s wr => ∃ (i : Nat) (l : List Int), i ≤ n ∧ s = .int .i64 i ∧ Row wr g l ∧ Hid (Tki k i xs ys l) ∧ Kp (· = g) w wr) (fun s _ => n - (intOf s).toNat)
  case atStart => exact ⟨0, xs, Nat.zero_le _, rfl, hx, Tki.start k xs ys, Kp.refl _ _⟩
  case round =>
    obtain ⟨i, l, hi, rfl, hr, ht, hkp⟩ := hrel
    by_cases hlt : i < n
    · have hyi := (hy.kp hkp (Ne.symm hgh)).cell (i := i) (by rw [HY.out]; exact hlt)
      have hll : Hid (xs.length = ys.length ∧ i < xs.length ∧ l.length = n) := Lib.hid ⟨HX.out.trans HY.out.symm, by rw [HX.out]; exact hlt, (ht.out.len (HX.out.trans HY.out.symm) (by rw [HX.out]; omega)).trans HX.out⟩
      have hxi := hr.cell (i := i) (by rw [hll.out.2.2]; exact hlt)
      have hzi := hr.frozen i
      have hki := hkp.cell HK.out hgk
      have hGr : GOk wr := HGG.out _ hkp
      rw [ht.out.get hll.out.1 hll.out.2.1] at hxi
      have hst := ht.out.step hll.out.1 hll.out.2.1
      have FX := HF.out.1.at_ i
      have FY := HF.out.2.at_ i
      have hsk : Hid (ys.getD i 0 = 0 → Tki k (i + 1) xs ys l) := Lib.hid (fun h => ht.out.skip hll.out.1 hll.out.2.1 h)
      obtain ⟨y, hyy⟩ : ∃ y, y = ys.getD i 0 := ⟨_, rfl⟩
      obtain ⟨x, hxx⟩ : ∃ x, x = xs.getD i 0 := ⟨_, rfl⟩
      rw [← hyy] at hyi hst FY hsk
      rw [← hxx] at hxi hst FX
      have HST := Lib.hid hst
      have ZX := Lib.hid (FX.za (by omega) hD0)
      have ZY := Lib.hid (FY.za (by omega) hE0)
      have ZKY := Lib.hid ((fk.mul FY).za (by omega) (by omega))
      have ZKN := Lib.hid ((fk.mul FY).neg.za (by omega) (by omega))
      clear hyy hxx hst FX FY
      by_cases hy0 : y = 0
      · have hy0' : ((tx y).toList == [48]) = true := by rw [tx_eq_zero, decide_eq_true hy0]
        have HS := Lib.hid (hsk.out hy0)
        clear hsk hy0
        go_wp2_with fail
        go_roundw
        case rel => exact ⟨i + 1, l, by omega, by go_num, hr, HS, hkp⟩
        case measure => (simp [intOf]) <;> omega
      · have hy0' : ((tx y).toList == [48]) = false := by rw [tx_eq_zero, decide_eq_false hy0]
        clear hy0 hsk
        go_wp2_with fail
        go_region_with (first | (go_at_call 55; refine (wmul_any k y HKZ.out ZY.out _ (by first | assumption | exact GOk.drew (by assumption))).mono ?_; rintro e w' ⟨rfl, hb1⟩; have hc1 : w'.cell? ⟨g, i, none⟩ = some (.string (tx x)) := cellB hb1 (by assumption); have hk1 : w'.cell? ⟨kb, 0, none⟩ = some (.string (tx k)) := cellB hb1 (by assumption); have hg1 : GOk w' := GOk.below (by first | assumption | exact GOk.drew (by assumption)) hb1; have hf1 : w'.frozen? ⟨g, i, none⟩ = false := frozenB hb1 (v := .string (tx x)) (by assumption) (by assumption)) | (go_at_call 126; refine (wsub_any x (k * y) ZX.out ZKY.out ZKN.out _ (by first | assumption | exact GOk.drew (by assumption))).mono ?_; rintro e w' ⟨rfl, hb2⟩; have hc2 : w'.cell? ⟨g, i, none⟩ = some (.string (tx x)) := cellB hb2 (by assumption); have hk2 : w'.cell? ⟨kb, 0, none⟩ = some (.string (tx k)) := cellB hb2 (by assumption); have hg2 : GOk w' := GOk.below (by first | assumption | exact GOk.drew (by assumption)) hb2; have hf2 : w'.frozen? ⟨g, i, none⟩ = false := frozenB hb2 (v := .string (tx x)) (by assumption) (by assumption)))
        all_goals go_wp2_with fail
        all_goals
          have hbw : Below wr.heap.size wr w' := by
            first
              | exact nb_trans (nb_drew _) (nb_trans hb1 hb2)
              | exact nb_trans (nb_drew _) (nb_trans hb2 hb1)
              | exact nb_trans hb1 hb2
          refine ⟨⟨i + 1, _, by omega, by go_num, (hr.nb hbw).set i _, HST, (hkp.nb hbw).set (p := ⟨g, i, none⟩) rfl _⟩, ?_⟩
          (simp [intOf]) <;> omega
    · obtain rfl : i = n := by omega
      go_wp2_with fail
      go_end0
      have hd := ht.out
      rw [← HX.out] at hd
      have e := hd.done (HX.out.trans HY.out.symm)
      exact ⟨rfl, by rw [← e]; exact hr, hkp⟩
end Go.Proofs.YtmfkpmepgbjmkaaGreatDoor
