/-
  WALKS: slices.Repeat of a row with one element.
-/
import Derived.Test.YtmfkpmepgbjmkaaGreatDoorEchf
import Derived.Laws.CopyOwn
set_option linter.unusedVariables false
set_option linter.unusedSimpArgs false
namespace Go.Proofs.YtmfkpmepgbjmkaaGreatDoor
open Go.RowKit

theorem Tryz.infoS : (Tryz.prog.info? 38).map (fun i => (i.zero, i.size, i.bytes)) = some (some (.string ⟨#[]⟩), 1, 16) := by kernel_rfl
theorem Tryz.sizeS : (Tryz.prog.info? 38).map (fun i => i.size) = some 1 := by kernel_rfl
/-- The first n cells hold the text. -/
def rpt (m n : Nat) (s : Value) : List Value := List.replicate n s ++ List.replicate (m - n) (.string ⟨#[]⟩)
theorem rpt_len {m n : Nat} (s : Value) (h : n ≤ m) : (rpt m n s).length = m := by simp [rpt]; omega
theorem rpt_zero (m : Nat) (s : Value) : rpt m 0 s = List.replicate m (.string ⟨#[]⟩) := by simp [rpt]
theorem rpt_splice {m n k : Nat} (s : Value) (h : n + k ≤ m) : splice (rpt m n s) n (List.replicate k s) = rpt m (n + k) s := by
  unfold splice rpt
  rw [List.take_left' (by simp), List.length_replicate]
  rw [List.drop_append, List.drop_eq_nil_of_le (by simp), List.nil_append, List.length_replicate, List.drop_replicate, ← List.append_assoc, List.replicate_append_replicate]
  congr 2
  omega
theorem rpt_cell {w : World} {g m n : Nat} {s : Value} {t : TypeId} (h : w.heap[g]? = some (.cells (rpt m n s).toArray t (0, 0))) : ∀ j, j < n → w.cell? ⟨g, j, none⟩ = some s := by
  intro j hj
  simp only [World.cell?, h]
  simp only [Option.isSome_none, Bool.false_eq_true, if_false]
  rw [List.getElem?_toArray]
  unfold rpt
  rw [List.getElem?_append_left (by simpa using hj)]
  simp [hj]
theorem rpt_row {w : World} {g m : Nat} {z : Int} (h : w.heap[g]? = some (.cells (rpt m m (.string (tx z))).toArray 38 (0, 0))) : Row w g (List.replicate m z) := by
  refine ⟨_, h, ?_⟩
  simp [rpt, strs]

theorem copy_step (W : World) (B b o n k dL dC sC : Nat) (a : Addr) (m : Nat) (s : Value) (HW : W.heap[b]? = some (.cells (rpt m n s).toArray 38 (0, 0))) (h1s : s.oneCell' = true) (hk : k = Nat.min o dL) (hnk : n + k ≤ m)
    (hsrc : ∀ j, j < k → W.cell? (a.add j) = some s) (hB : B ≤ b) :
    ∃ w2, Sem.run Tryz.prog (Builtin.copy_ #[88, 88] 3 #[.slice (some ⟨b, n, none⟩) dL dC, .slice (some a) o sC]) W = .ok (.int .i64 k) w2 ∧ Hid (w2.heap[b]? = some (.cells (rpt m (n + k) s).toArray 38 (0, 0))) ∧ Below B W w2 := by
  have hrun := run_copy_row (P := Tryz.prog) W 88 88 3 38 b n dL dC a o sC (rpt m n s).toArray 38 (List.replicate k s) Tryz.underlying88 Tryz.sizeS HW (by rw [List.length_replicate]; exact hk)
    (by
      intro j v hj
      rw [List.getElem?_replicate] at hj
      by_cases h : j < k
      · rw [if_pos h] at hj; cases hj; exact hsrc j h
      · rw [if_neg h] at hj; cases hj)
    (by rw [List.length_replicate]; simp only [List.size_toArray]; rw [rpt_len s (by omega)]; exact hnk) (by intro v hv; rw [List.eq_of_mem_replicate hv]; exact h1s)
  rw [List.length_replicate] at hrun
  have e : ((rpt m n s).toArray.toList.take n ++ List.replicate k s ++ (rpt m n s).toArray.toList.drop (n + k)) = rpt m (n + k) s := by
    have e1 := rpt_splice (m := m) (n := n) (k := k) s hnk
    unfold splice at e1
    rw [List.length_replicate] at e1
    rw [List.append_assoc]
    exact e1
  rw [e] at hrun
  exact ⟨_, hrun, setRow_heap W b (rpt m n s).toArray _ _ _ HW, below_setRow (Below.refl _ _) hB _⟩

set_option maxRecDepth 100000 in
set_option maxHeartbeats 1600000 in
theorem repeat_any (w : World) (g c m : Nat) (z : Int) (hm : m ≤ 1000) (hm0 : 1 ≤ m) (hg : w.cell? ⟨g, 0, none⟩ = some (.string (tx z))) :
    Calls Tryz.prog 80 #[.slice (some ⟨g, 0, none⟩) 1 c, .int .i64 m] w fun e w' => e = .returned (.slice (some ⟨w.heap.size, 0, none⟩) m m) ∧ Row w' w.heap.size (List.replicate m z) ∧ Below w.heap.size w w' := by
  have hmk := fun W => run_make_row' (P := Tryz.prog) 88 38 (.string ⟨#[]⟩) 16 Tryz.underlying88 Tryz.infoS rfl .i64 .i64 m (by omega) (by omega) W
  have MU := Lib.hid (fun W => Tryz.bits_Mul 1 m (by omega) (by omega) W)
  rw [Nat.one_mul, Nat.div_eq_of_lt (by omega), Nat.mod_eq_of_lt (by omega)] at MU
  obtain ⟨s, hs⟩ : ∃ s, s = Value.string (tx z) := ⟨_, rfl⟩
  rw [← hs] at hg
  have h1s : s.oneCell' = true := by rw [hs]; rfl
  have HS := Lib.hid hs
  have hlt := World.block_lt_of_cell? _ _ hg
  have HW : Hid ((w.alloc (.cells (madeCells #[.string ⟨#[]⟩] m) 38)).heap[w.heap.size]? = some (.cells (rpt m 0 s).toArray 38 (0, 0))) := Lib.hid (by
    have e : (madeCells #[.string ⟨#[]⟩] m : Array Value) = (rpt m 0 s).toArray := by
      rw [rpt_zero, ← toList_madeCells_one]
    rw [e]
    simp [World.alloc, -World.alloc_eq])
  have h0m : (0 : Int) < (m : Int) := by omega
  have hm2 : ¬ (9223372036854775807 < m) := by omega
  clear hs
  go_enter Tryz.func80, Tryz.ntmps80
  obtain ⟨w2, hrun, hg2, hb2'⟩ := copy_step (w.alloc (.cells (madeCells #[.string ⟨#[]⟩] m) 38)) w.heap.size w.heap.size 1 0 1 m m c ⟨g, 0, none⟩ m s HW.out h1s (by show 1 = min 1 m; omega) (by omega)
    (by intro j hj; match j, hj with | 0, _ => exact cellB (nb_alloc _ _) hg) (Nat.le_refl _)
  have hb2 := (nb_alloc w _).trans hb2'
  have HG2 := Lib.hid hg2.out
  clear hg2 HW hb2'
  go_wp2_with (first | (go_at_call 110; refine (MU.out _).mono ?_; rintro e w1 ⟨rfl, rfl⟩))
  go_loopw [8] (fun s8 wr => ∃ n : Nat, 1 ≤ n ∧ n ≤ m ∧ s8 = .int .i64 n ∧ Hid (wr.heap[w1.heap.size]? = some (.cells (rpt m n s).toArray 38 (0, 0))) ∧ Below w1.heap.size w1 wr) (fun s8 _ => m - (intOf s8).toNat)
  case atStart => exact ⟨1, Nat.le_refl _, hm0, rfl, HG2, hb2⟩
  case round =>
    clear HG2 hb2 hrun
    obtain ⟨n, hn1, hn2, rfl, hgr, hbr⟩ := hrel
    by_cases hnm : n < m
    · obtain ⟨k, hk⟩ : ∃ k, k = Nat.min n (m - n) := ⟨_, rfl⟩
      have hk1 : 1 ≤ k ∧ n + k ≤ m := by rw [hk]; show 1 ≤ min n (m - n) ∧ n + min n (m - n) ≤ m; omega
      obtain ⟨w3, hrun, hg3, hb3⟩ := copy_step wr.drew w1.heap.size w1.heap.size n n k (m - n) (m - n) m ⟨w1.heap.size, 0, none⟩ m s hgr.out h1s hk hk1.2
        (by intro j hj; have := rpt_cell hgr.out j (by have : k ≤ n := by (rw [hk]; exact Nat.min_le_left _ _)
                                                       omega)
            unfold Addr.add
            by_cases h0 : j = 0
            · subst h0; simpa using this
            · simpa [h0] using this) (Nat.le_refl _)
      have HG3 := Lib.hid hg3.out
      have i1 : (n : Int) ≤ (m : Int) := by omega
      have i2 : ¬ m = n := by omega
      have i3 : ¬ m - n = 0 := by omega
      have i4 : n + k ≤ m := hk1.2
      have HK := Lib.hid hk1.1
      clear hk hk1 hg3
      go_wp2_with fail
      go_region
      go_wp2_with fail
      go_roundw
      case rel => exact ⟨n + k, by omega, by omega, by go_num, HG3, hbr.trans (((nb_drew wr).mono hbr.size).trans hb3)⟩
      case measure => have := HK.out; (simp [intOf]) <;> omega
    · obtain rfl : n = m := by omega
      go_wp2_with fail
      go_ret
      exact ⟨rfl, rpt_row (by rw [← HS.out]; exact hgr.out), hbr⟩
end Go.Proofs.YtmfkpmepgbjmkaaGreatDoor
