/-
  WALKS: hermite's line.turn.
-/
import Derived.Test.YtmfkpmepgbjmkaaGreatDoorLessf
set_option linter.unusedVariables false
set_option linter.unusedSimpArgs false
namespace Go.Proofs.YtmfkpmepgbjmkaaGreatDoor
open Go.RowKit

def negL (l : List Int) : List Int := l.map (fun x => -x)
/-- Up to place i the signs are changed. -/
def Ngi (i : Nat) (xs l : List Int) : Prop := l = negL (xs.take i) ++ xs.drop i
theorem Ngi.start (xs : List Int) : Ngi 0 xs xs := by simp [Ngi, negL]
theorem Ngi.len {i : Nat} {xs l : List Int} (h : Ngi i xs l) (hi : i ≤ xs.length) : l.length = xs.length := by
  subst h
  simp [negL]
  omega
theorem Ngi.get {i : Nat} {xs l : List Int} (h : Ngi i xs l) (hi : i < xs.length) : l.getD i 0 = xs.getD i 0 := by
  subst h
  rw [List.getD_eq_getElem?_getD, List.getElem?_append_right (by simp [negL]; omega), List.getD_eq_getElem?_getD, List.getElem?_drop]
  congr 2
  simp [negL]
  omega
theorem Ngi.step {i : Nat} {xs l : List Int} (h : Ngi i xs l) (hi : i < xs.length) : Ngi (i + 1) xs (l.set i (-(xs.getD i 0))) := by
  have e1 : xs.take (i + 1) = xs.take i ++ [xs.getD i 0] := by
    rw [List.take_add_one, List.getD_eq_getElem?_getD, List.getElem?_eq_getElem hi]; rfl
  have e3 : xs.drop i = xs.getD i 0 :: xs.drop (i + 1) := by
    rw [List.drop_eq_getElem_cons hi, List.getD_eq_getElem?_getD, List.getElem?_eq_getElem hi]; rfl
  unfold Ngi at *
  rw [h, e1, e3]
  unfold negL
  rw [List.map_append, List.append_assoc]
  have e4 : i = ((xs.take i).map (fun x => -x)).length := by simp; omega
  have e5 : ∀ (A B : List Int) (z z' : Int), i = A.length → (A ++ z :: B).set i z' = A ++ ([z'] ++ B) := fun A B z z' hA => by
    subst hA
    simp
  exact e5 _ _ _ _ e4
theorem Ngi.done {xs l : List Int} (h : Ngi xs.length xs l) : l = negL xs := by
  unfold Ngi at h
  rw [h, List.take_length, List.drop_length, List.append_nil]

theorem alloc2_0 (w : World) (a b : Value) (t : TypeId) (o : Obj) : ((w.alloc o).alloc (.cells #[a, b] t)).cell? ⟨w.heap.size + 1, 0, none⟩ = some a := by
  simp only [World.cell?, World.alloc, Array.getElem?_push, Array.size_push]
  repeat (first | rw [if_neg (by omega)] | rw [if_pos (by omega)])
  rfl
theorem alloc2_1 (w : World) (a b : Value) (t : TypeId) (o : Obj) : ((w.alloc o).alloc (.cells #[a, b] t)).cell? ⟨w.heap.size + 1, 1, none⟩ = some b := by
  simp only [World.cell?, World.alloc, Array.getElem?_push, Array.size_push]
  repeat (first | rw [if_neg (by omega)] | rw [if_pos (by omega)])
  rfl
set_option maxRecDepth 100000 in
set_option maxHeartbeats 1600000 in
theorem turn_any (w : World) (B gx gb c1 c2 n m D : Nat) (xs us : List Int) (hxl : xs.length = n) (hul : us.length = m) (hG : GOk w) (hB : Gb B) (bx : B ≤ gx) (bb : B ≤ gb)
    (rx : Row w gx xs) (ru : Row w gb us) (n3 : gx ≠ gb) (hn : n ≤ 1000) (hm : m ≤ 1000)
    (fx : Lt10s D xs) (fu : Lt10s D us) (hD0 : 1 ≤ D) (hD : D ≤ 4000000000) :
    Calls Tryz.prog 83 #[.agg #[.slice (some ⟨gx, 0, none⟩) n c1, .slice (some ⟨gb, 0, none⟩) m c2]] w
      fun e w' => e = .returned (.tuple #[]) ∧ Row w' gx (negL xs) ∧ Row w' gb (negL us) ∧ Kp (fun i => i = gx ∨ i = gb) w w' := by
  have HX := Lib.hid hxl
  have HU := Lib.hid hul
  have l1 := rx.lt
  have l3 := ru.lt
  have HF := Lib.hid (And.intro fx fu)
  clear hxl hul fx fu
  go_enter Tryz.func83, Tryz.ntmps83
  go_wp2_with fail
  have W1 : Below w.heap.size w ((w.alloc (.cells #[.slice (some ⟨gx, 0, none⟩) n c1, .slice (some ⟨gb, 0, none⟩) m c2] 90)).alloc (.cells #[.slice (some ⟨gx, 0, none⟩) n c1, .slice (some ⟨gb, 0, none⟩) m c2] 88)) := nb_trans (nb_alloc _ _) (nb_alloc _ _)
  go_loopw [12] (fun s wr => ∃ (i : Nat), i ≤ 2 ∧ s = .int .i64 i ∧ Kp (fun i => i = gx ∨ i = gb) w wr ∧ wr.cell? ⟨w.heap.size + 1, 0, none⟩ = some (.slice (some ⟨gx, 0, none⟩) n c1) ∧ wr.cell? ⟨w.heap.size + 1, 1, none⟩ = some (.slice (some ⟨gb, 0, none⟩) m c2) ∧
    Row wr gx (if 0 < i then negL xs else xs) ∧ Row wr gb (if 1 < i then negL us else us)) (fun s _ => 2 - (intOf s).toNat)
  case atStart => exact ⟨0, by omega, rfl, Kp.of_below W1, alloc2_0 _ _ _ _ _, alloc2_1 _ _ _ _ _, rx.nb W1, ru.nb W1⟩
  case round =>
    obtain ⟨i, hi, rfl, hW, hc0, hc1, hrx, hru⟩ := hrel
    have hi3 : i = 0 ∨ i = 1 ∨ i = 2 := by omega
    rcases hi3 with rfl | rfl | rfl
    · rw [if_neg (by omega)] at hrx hru
      go_wp2_with fail
      go_loopw [18] (fun s wr' => ∃ (j : Nat) (l : List Int), j ≤ n ∧ s = .int .i64 j ∧ Row wr' gx l ∧ Hid (Ngi j xs l) ∧ Kp (· = gx) wr wr') (fun s _ => n - (intOf s).toNat)
      case atStart => exact ⟨0, xs, Nat.zero_le _, rfl, hrx, Ngi.start xs, Kp.refl _ _⟩
      case round =>
        rename_i wq
        obtain ⟨j, l, hj, rfl, hr, ht, hkq⟩ := hrel
        by_cases hlt : j < n
        · have hxi := hr.cell (i := j) (by rw [ht.out.len (by rw [HX.out]; omega), HX.out]; exact hlt)
          have hzi := hr.frozen j
          rw [ht.out.get (by rw [HX.out]; exact hlt)] at hxi
          have hst := Lib.hid (ht.out.step (by rw [HX.out]; exact hlt))
          have ZX := Lib.hid ((HF.out.1.at_ j).za (by omega) hD0)
          obtain ⟨x, hxx⟩ : ∃ x, x = xs.getD j 0 := ⟨_, rfl⟩
          rw [← hxx] at hxi hst ZX
          clear hxx
          go_wp2_with (go_at_call 124; refine (neg_any x ZX.out.sz _).mono ?_; rintro e w' ⟨rfl, hb1⟩; have hf1 : w'.frozen? ⟨gx, j, none⟩ = false := frozenB hb1 (v := .string (tx x)) (by assumption) (by assumption); have hc1 : w'.cell? ⟨gx, j, none⟩ = some (.string (tx x)) := cellB hb1 (by assumption))
          go_roundw
          case rel => (repeat apply Exists.intro); refine ⟨?_, rfl⟩; exact ⟨j + 1, _, by omega, by go_num, (hr.nb hb1).set j _, hst, (hkq.nb hb1).set (p := ⟨gx, j, none⟩) rfl _⟩
          case measure => (simp [intOf]) <;> omega
        · obtain rfl : j = n := by omega
          go_wp2_with fail
          go_roundw
          case rel =>
            have hd := ht.out
            rw [← HX.out] at hd
            have e := hd.done
            subst e
            refine ⟨1, by omega, by go_num, hW.trans (hkq.mono (by intro i hi; exact .inl hi)), ?_, ?_, ?_, ?_⟩
            · exact hkq.cell hc0 (by show ¬ w.heap.size + 1 = gx; omega)
            · exact hkq.cell hc1 (by show ¬ w.heap.size + 1 = gx; omega)
            · exact hr
            · exact hru.kp hkq (Ne.symm n3)
          case measure => (simp [intOf]) <;> omega
    · rw [if_pos (by omega)] at hrx
      rw [if_neg (by omega)] at hru
      go_wp2_with fail
      go_loopw [18] (fun s wr' => ∃ (j : Nat) (l : List Int), j ≤ m ∧ s = .int .i64 j ∧ Row wr' gb l ∧ Hid (Ngi j us l) ∧ Kp (· = gb) wr wr') (fun s _ => m - (intOf s).toNat)
      case atStart => exact ⟨0, us, Nat.zero_le _, rfl, hru, Ngi.start us, Kp.refl _ _⟩
      case round =>
        rename_i wq
        obtain ⟨j, l, hj, rfl, hr, ht, hkq⟩ := hrel
        by_cases hlt : j < m
        · have hxi := hr.cell (i := j) (by rw [ht.out.len (by rw [HU.out]; omega), HU.out]; exact hlt)
          have hzi := hr.frozen j
          rw [ht.out.get (by rw [HU.out]; exact hlt)] at hxi
          have hst := Lib.hid (ht.out.step (by rw [HU.out]; exact hlt))
          have ZX := Lib.hid ((HF.out.2.at_ j).za (by omega) hD0)
          obtain ⟨x, hxx⟩ : ∃ x, x = us.getD j 0 := ⟨_, rfl⟩
          rw [← hxx] at hxi hst ZX
          clear hxx
          go_wp2_with (go_at_call 124; refine (neg_any x ZX.out.sz _).mono ?_; rintro e w' ⟨rfl, hb1⟩; have hf1 : w'.frozen? ⟨gb, j, none⟩ = false := frozenB hb1 (v := .string (tx x)) (by assumption) (by assumption); have hc1 : w'.cell? ⟨gb, j, none⟩ = some (.string (tx x)) := cellB hb1 (by assumption))
          go_roundw
          case rel => (repeat apply Exists.intro); refine ⟨?_, rfl⟩; exact ⟨j + 1, _, by omega, by go_num, (hr.nb hb1).set j _, hst, (hkq.nb hb1).set (p := ⟨gb, j, none⟩) rfl _⟩
          case measure => (simp [intOf]) <;> omega
        · obtain rfl : j = m := by omega
          go_wp2_with fail
          go_roundw
          case rel =>
            have hd := ht.out
            rw [← HU.out] at hd
            have e := hd.done
            subst e
            refine ⟨2, by omega, by go_num, hW.trans (hkq.mono (by intro i hi; exact .inr hi)), ?_, ?_, ?_, ?_⟩
            · exact hkq.cell hc0 (by show ¬ w.heap.size + 1 = gb; omega)
            · exact hkq.cell hc1 (by show ¬ w.heap.size + 1 = gb; omega)
            · exact hrx.kp hkq n3
            · exact hr
          case measure => (simp [intOf]) <;> omega
    · rw [if_pos (by omega)] at hrx hru
      go_wp2_with fail
      go_end0
      exact ⟨rfl, hrx, hru, hW⟩
end Go.Proofs.YtmfkpmepgbjmkaaGreatDoor
