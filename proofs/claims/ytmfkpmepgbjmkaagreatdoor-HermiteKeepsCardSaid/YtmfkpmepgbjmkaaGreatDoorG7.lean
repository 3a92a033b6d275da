/-
  WALKS: the laws' few and known.
  WALKS: the laws' known, and HermiteChecks.
  WALKS: the law HermiteChecks.
  ROWS: what a row's start gives the walks: the laid variables (GOk), a matrix that comes in (MatAt).
-/
import Derived.Test.YtmfkpmepgbjmkaaGreatDoorG6
import Derived.Test.YtmfkpmepgbjmkaaGreatDoorRows
import Derived.ProofKit
import Derived.LaidMore
import Derived.OpenShut
import Derived.Stop.Joined
import Derived.Stop.LaidErr
import Derived.MakeChecks
import Derived.Carry
import Derived.Stop.FmtTextKit
import Derived.Deep.Matrix
set_option linter.unusedVariables false
set_option linter.unusedSimpArgs false
namespace Go.Proofs.YtmfkpmepgbjmkaaGreatDoor
open Go.RowKit

set_option maxRecDepth 100000 in
set_option maxHeartbeats 1600000 in
theorem few_any (w : World) (v : Value) (M : List (List Int)) (h : MatAt w v M) :
    Calls Tryz.prog 19 #[v] w fun e w' => ∃ b, e = .returned (.bool b) ∧ Below w.heap.size w w' := by
  obtain ⟨p, c, rfl, hc, hmax, hcell⟩ := h
  obtain ⟨m, hm⟩ : ∃ m, m = M.length := ⟨_, rfl⟩
  rw [← hm] at hc hmax hcell ⊢
  have HC := Lib.hid hcell
  clear hcell hm
  by_cases h1 : 5 < m ∧ (m < 12 ∨ 14 < m)
  · have d1 : decide (5 < m) = true := decide_eq_true h1.1
    by_cases h2 : m < 12
    · have d2 : decide (m < 12) = true := decide_eq_true h2
      go_enter Tryz.func19, Tryz.ntmps19
      go_wp2_with fail
      go_ret
      first | exact ⟨_, rfl, nb_refl _⟩ | exact ⟨.inl rfl, nb_refl _⟩ | exact ⟨.inr rfl, nb_refl _⟩ | exact ⟨⟨_, rfl⟩, nb_refl _⟩
    · have d2 : decide (m < 12) = false := decide_eq_false h2
      have h3 : 14 < m := by omega
      go_enter Tryz.func19, Tryz.ntmps19
      go_wp2_with fail
      go_ret
      first | exact ⟨_, rfl, nb_refl _⟩ | exact ⟨.inl rfl, nb_refl _⟩ | exact ⟨.inr rfl, nb_refl _⟩ | exact ⟨⟨_, rfl⟩, nb_refl _⟩
  · have HL : Hid (∀ W, Below w.heap.size w W → ∀ i, i < m → ∃ b o q n c, p = some ⟨b, o, none⟩ ∧ W.cell? ⟨b, o + i, none⟩ = some (.slice q n c)) := Lib.hid (fun W hW i hi => by
      obtain ⟨b, o, u, e, hu, hr⟩ := HC.out i hi
      obtain ⟨q, k, hv, _, _⟩ := hr.slice_
      exact ⟨b, o, q, _, k, e, by rw [← hv]; exact cellB hW hu⟩)
    have HN : m ≤ 14 := by omega
    clear HC
    have hcond : ∀ (K : Prop), (m ≤ 5 → K) → (5 < m → 12 ≤ m → m ≤ 14 → K) → K := fun K a b => by
      by_cases h : m ≤ 5
      · exact a h
      · exact b (by omega) (by omega) (by omega)
    apply hcond
    · intro h5
      clear hcond h1
      go_enter Tryz.func19, Tryz.ntmps19
      go_wp2_with fail
      go_loopw [3] (fun s3 wr => ∃ i : Nat, i ≤ m ∧ s3 = .int .i64 i ∧ wr = w) (fun s3 _ => m - (intOf s3).toNat)
      case atStart => exact ⟨0, Nat.zero_le _, rfl, rfl⟩
      case round =>
        obtain ⟨i, hi, rfl, rfl⟩ := hrel
        by_cases him : i < m
        · obtain ⟨b, o, q, n, c, rfl, hcl⟩ := HL.out _ (nb_refl _) i him
          by_cases g1 : 5 < n
          · by_cases g2 : 1 < m
            · go_wp2_with fail
              go_ret
              first | exact ⟨_, rfl, nb_refl _⟩ | exact ⟨.inl rfl, nb_refl _⟩ | exact ⟨.inr rfl, nb_refl _⟩ | exact ⟨⟨_, rfl⟩, nb_refl _⟩
            · by_cases g3 : 14 < n
              · go_wp2_with fail
                go_ret
                first | exact ⟨_, rfl, nb_refl _⟩ | exact ⟨.inl rfl, nb_refl _⟩ | exact ⟨.inr rfl, nb_refl _⟩ | exact ⟨⟨_, rfl⟩, nb_refl _⟩
              · go_wp2_with fail
                go_roundw
                case rel => first | exact ⟨i + 1, by omega, by go_num, by first | rfl | trivial⟩ | ((repeat apply Exists.intro); refine ⟨?_, rfl⟩; exact ⟨i + 1, by omega, by go_num, by first | rfl | trivial⟩) | trace_state
                case measure => (simp [intOf]) <;> omega
          · go_wp2_with fail
            go_roundw
            case rel => first | exact ⟨i + 1, by omega, by go_num, by first | rfl | trivial⟩ | ((repeat apply Exists.intro); refine ⟨?_, rfl⟩; exact ⟨i + 1, by omega, by go_num, by first | rfl | trivial⟩) | trace_state
            case measure => (simp [intOf]) <;> omega
        · obtain rfl : i = m := by omega
          go_wp2_with fail
          go_ret
          first | exact ⟨_, rfl, nb_refl _⟩ | exact ⟨.inl rfl, nb_refl _⟩ | exact ⟨.inr rfl, nb_refl _⟩ | exact ⟨⟨_, rfl⟩, nb_refl _⟩
    · intro h5 h6 h7
      clear hcond h1
      have g2 : 1 < m := by omega
      go_enter Tryz.func19, Tryz.ntmps19
      go_wp2_with fail
      go_loopw [3] (fun s3 wr => ∃ i : Nat, i ≤ m ∧ s3 = .int .i64 i ∧ wr = w) (fun s3 _ => m - (intOf s3).toNat)
      case atStart => exact ⟨0, Nat.zero_le _, rfl, rfl⟩
      case round =>
        obtain ⟨i, hi, rfl, rfl⟩ := hrel
        by_cases him : i < m
        · obtain ⟨b, o, q, n, c, rfl, hcl⟩ := HL.out _ (nb_refl _) i him
          by_cases g1 : 5 < n
          · go_wp2_with fail
            go_ret
            first | exact ⟨_, rfl, nb_refl _⟩ | exact ⟨.inl rfl, nb_refl _⟩ | exact ⟨.inr rfl, nb_refl _⟩ | exact ⟨⟨_, rfl⟩, nb_refl _⟩
          · go_wp2_with fail
            go_roundw
            case rel => first | exact ⟨i + 1, by omega, by go_num, by first | rfl | trivial⟩ | ((repeat apply Exists.intro); refine ⟨?_, rfl⟩; exact ⟨i + 1, by omega, by go_num, by first | rfl | trivial⟩) | trace_state
            case measure => (simp [intOf]) <;> omega
        · obtain rfl : i = m := by omega
          go_wp2_with fail
          go_ret
          first | exact ⟨_, rfl, nb_refl _⟩ | exact ⟨.inl rfl, nb_refl _⟩ | exact ⟨.inr rfl, nb_refl _⟩ | exact ⟨⟨_, rfl⟩, nb_refl _⟩

/-! ### The known examples -/
theorem inl_two {a b x : Hnf.Row} (k l : Int) (h : ∀ j, x j = k * a j + l * b j) : Hnf.InL [a, b] x := ⟨k, l, fun j => by show x j - k * a j - l * b j = 0; rw [h j]; omega⟩
theorem xrow3 (a b c : Int) (j : Nat) : Ln.xrow [a, b, c] j = if j = 0 then a else if j = 1 then b else if j = 2 then c else 0 := by
  unfold Ln.xrow
  match j with
  | 0 => rfl
  | 1 => rfl
  | 2 => rfl
  | j + 3 => simp
theorem xrow2 (a b : Int) (j : Nat) : Ln.xrow [a, b] j = if j = 0 then a else if j = 1 then b else 0 := by
  unfold Ln.xrow
  match j with
  | 0 => rfl
  | 1 => rfl
  | j + 2 => simp
theorem known_formOf : FormOf 3 [[-4, 4, -1], [7, 0, -3]] [[1, 20, -14], [0, 28, -19]] := by
  refine ⟨⟨0, Nat.le_refl _, by omega, fun j hj => by omega, by decide, ⟨1, by omega, by omega, fun j hj => by (have : j = 0 := by omega); subst this; rfl, by decide, trivial, fun b hb => by cases hb⟩, ?_⟩, ?_, ?_⟩
  · intro b hb q hq0 hq1
    have hb' : b = Ln.xrow [0, 28, -19] := by simpa using hb
    subst hb'
    have hq : q = 1 := by
      rcases Nat.lt_trichotomy q 1 with h | h | h
      · have : q = 0 := by omega
        subst this
        exact absurd rfl hq1
      · exact h
      · exact absurd (hq0 1 h) (by decide)
    subst hq
    exact ⟨by decide, by decide⟩
  · refine Hnf.Same.of (fun a ha => ?_) (fun b hb => ?_)
    · have ha' : a = Ln.xrow [-4, 4, -1] ∨ a = Ln.xrow [7, 0, -3] := by simpa using ha
      rcases ha' with rfl | rfl
      · refine inl_two (-4) 3 (fun j => ?_)
        rw [xrow3, xrow3, xrow3]
        by_cases h0 : j = 0
        · simp [h0]
        · by_cases h1 : j = 1
          · simp [h1]
          · by_cases h2 : j = 2
            · simp [h2]
            · simp [h0, h1, h2]
      · refine inl_two 7 (-5) (fun j => ?_)
        rw [xrow3, xrow3, xrow3]
        by_cases h0 : j = 0
        · simp [h0]
        · by_cases h1 : j = 1
          · simp [h1]
          · by_cases h2 : j = 2
            · simp [h2]
            · simp [h0, h1, h2]
    · have hb' : b = Ln.xrow [1, 20, -14] ∨ b = Ln.xrow [0, 28, -19] := by simpa using hb
      rcases hb' with rfl | rfl
      · refine inl_two 5 3 (fun j => ?_)
        rw [xrow3, xrow3, xrow3]
        by_cases h0 : j = 0
        · simp [h0]
        · by_cases h1 : j = 1
          · simp [h1]
          · by_cases h2 : j = 2
            · simp [h2]
            · simp [h0, h1, h2]
      · refine inl_two 7 4 (fun j => ?_)
        rw [xrow3, xrow3, xrow3]
        by_cases h0 : j = 0
        · simp [h0]
        · by_cases h1 : j = 1
          · simp [h1]
          · by_cases h2 : j = 2
            · simp [h2]
            · simp [h0, h1, h2]
  · intro r hr
    have hr' : r = [1, 20, -14] ∨ r = [0, 28, -19] := by simpa using hr
    rcases hr' with rfl | rfl <;> rfl
theorem known_formOf2 : FormOf 2 [[2, 0], [0, 3]] [[2, 0], [0, 3]] := by
  refine ⟨⟨0, Nat.le_refl _, by omega, fun j hj => by omega, by decide, ⟨1, by omega, by omega, fun j hj => by (have : j = 0 := by omega); subst this; rfl, by decide, trivial, fun b hb => by cases hb⟩, ?_⟩, Hnf.Same.refl _, ?_⟩
  · intro b hb q hq0 hq1
    have hb' : b = Ln.xrow [0, 3] := by simpa using hb
    subst hb'
    have hq : q = 1 := by
      rcases Nat.lt_trichotomy q 1 with h | h | h
      · have : q = 0 := by omega
        subst this
        exact absurd rfl hq1
      · exact h
      · exact absurd (hq0 1 h) (by decide)
    subst hq
    exact ⟨by decide, by decide⟩
  · intro r hr
    have hr' : r = [2, 0] ∨ r = [0, 3] := by simpa using hr
    rcases hr' with rfl | rfl <;> rfl
theorem known_form (W : World) (v : Value) (h : MatAt W v [[-4, 4, -1], [7, 0, -3]]) (hG : GOk W) :
    Calls Tryz.prog 12 #[v] W fun e w' => ∃ u, e = .returned (.tuple #[u, .int .i64 0]) ∧ MatAt w' u [[1, 20, -14], [0, 28, -19]] ∧ Below W.heap.size W w' := by
  refine (form_any W v _ h (by show Ln.dg 3 10 ≤ _; decide) hG).mono ?_
  rintro e w' ⟨h1 | ⟨_, L, hL, h2⟩, hb⟩
  · exact absurd (show chkM [[-4, 4, -1], [7, 0, -3]] = 0 by decide +kernel) h1.1
  · have hLe : L = [[1, 20, -14], [0, 28, -19]] := FormOf.unique hL known_formOf
    subst hLe
    rcases h2 with ⟨_, u, he, hm⟩ | ⟨hl, _⟩
    · exact ⟨u, he, hm.at_, hb⟩
    · exact absurd (show ∀ r ∈ [[(1 : Int), 20, -14], [0, 28, -19]], Lim r by decide +kernel) hl
theorem known_reduce (W : World) (v x : Value) (h : MatAt W v [[2, 0], [0, 3]]) (hx : RowAt W x [5, -1]) (hG : GOk W) :
    Calls Tryz.prog 38 #[v, x] W fun e w' => ∃ u1 u2, e = .returned (.tuple #[u1, u2, .int .i64 0]) ∧ RowAt w' u1 [1, 2] ∧ RowAt w' u2 [2, -1] ∧ Below W.heap.size W w' ∧ GOk w' := by
  have e1 : redL [[2, 0], [0, 3]] [5, -1] = ([1, 2], [2, -1]) := by decide +kernel
  refine (Reduce_any W v x _ _ h hx hG).mono ?_
  unfold ReducePost
  rw [e1]
  rintro e w' ⟨h1 | ⟨_, h2, _⟩ | ⟨_, _, u1, u2, he, hr1, hr2⟩, hb, hg⟩
  · exact absurd (show openE [[2, 0], [0, 3]] [5, -1] = 0 by decide +kernel) h1.1
  · exact absurd (show Lim [1, 2] ∧ Lim [2, -1] by decide +kernel) h2
  · exact ⟨u1, u2, he, hr1, hr2, hb, hg⟩
theorem known_index (W : World) (v x : Value) (h : MatAt W v [[1, 0], [0, 1]]) (hx : MatAt W x [[2, 0], [0, 3]]) (hG : GOk W) :
    Calls Tryz.prog 14 #[v, x] W fun e w' => e = .returned (.tuple #[.string (tx 6), .bool true, .int .i64 0]) ∧ Below W.heap.size W w' := by
  have hp : pairE [[1, 0], [0, 1]] [[2, 0], [0, 3]] = 0 := by decide +kernel
  have hi : inclB [[1, 0], [0, 1]] [[2, 0], [0, 3]] = true := by decide +kernel
  refine (index_main W v x _ _ h hx hp hi (by decide) (by show Ln.dg 2 10 ≤ _; decide) hG).mono ?_
  rintro e w' ⟨h1 | ⟨_, h2, _⟩ | ⟨_, _, L, hL, h3⟩, hb⟩
  · exact absurd hp h1.1
  · rw [hi] at h2; cases h2
  · have hLe : L = [[2, 0], [0, 3]] := FormOf.unique hL known_formOf2
    subst hLe
    rcases h3 with ⟨h4, _⟩ | ⟨_, he⟩
    · exact absurd h4 (by decide)
    · refine ⟨?_, hb⟩
      rw [he, show idxL [[1, 0], [0, 1]] [[2, 0], [0, 3]] [[(1 : Int), 0], [0, 1]].length = 6 from by decide +kernel]
end Go.Proofs.YtmfkpmepgbjmkaaGreatDoor

namespace Go.Proofs.YtmfkpmepgbjmkaaGreatDoor
open Go.RowKit

/-! ### Rows and matrices that are written out -/
theorem lit_cell {w : World} {g k : Nat} {cs : Array Value} {t : TypeId} (h : w.heap[g]? = some (.cells cs t (0, 0))) (j : Nat) : w.cell? ⟨g, 0 + j, none⟩ = cs[j]? := by
  rw [Nat.zero_add, cell_of_row w g j _ _ _ h]
theorem lit_row2 (w : World) (a b : Int) (t : TypeId) (k : Nat) (hk : w.heap.size = k) (ha : I64 a) (hb : I64 b) : RowAt (w.alloc (.cells #[.int .i64 a, .int .i64 b] t)) (.slice (some ⟨k, 0, none⟩) 2 2) [a, b] := by
  subst hk
  refine ⟨_, 2, rfl, Nat.le_refl _, by show 2 ≤ 9223372036854775807; omega, ?_, fun j hj => ⟨w.heap.size, 0, rfl, ?_⟩⟩
  · intro x hx
    have : x = a ∨ x = b := by simpa using hx
    rcases this with rfl | rfl <;> assumption
  · have hh : (w.alloc (.cells #[.int .i64 a, .int .i64 b] t)).heap[w.heap.size]? = some (.cells #[.int .i64 a, .int .i64 b] t (0, 0)) := by simp [World.alloc, -World.alloc_eq]
    rw [lit_cell (k := 0) hh]
    match j, hj with
    | 0, _ => rfl
    | 1, _ => rfl
theorem lit_row3 (w : World) (a b c : Int) (t : TypeId) (k : Nat) (hk : w.heap.size = k) (ha : I64 a) (hb : I64 b) (hc : I64 c) : RowAt (w.alloc (.cells #[.int .i64 a, .int .i64 b, .int .i64 c] t)) (.slice (some ⟨k, 0, none⟩) 3 3) [a, b, c] := by
  subst hk
  refine ⟨_, 3, rfl, Nat.le_refl _, by show 3 ≤ 9223372036854775807; omega, ?_, fun j hj => ⟨w.heap.size, 0, rfl, ?_⟩⟩
  · intro x hx
    have : x = a ∨ x = b ∨ x = c := by simpa using hx
    rcases this with rfl | rfl | rfl <;> assumption
  · have hh : (w.alloc (.cells #[.int .i64 a, .int .i64 b, .int .i64 c] t)).heap[w.heap.size]? = some (.cells #[.int .i64 a, .int .i64 b, .int .i64 c] t (0, 0)) := by simp [World.alloc, -World.alloc_eq]
    rw [lit_cell (k := 0) hh]
    match j, hj with
    | 0, _ => rfl
    | 1, _ => rfl
    | 2, _ => rfl
theorem lit_mat2 {w : World} {u1 u2 : Value} {x1 x2 : List Int} (h1 : RowAt w u1 x1) (h2 : RowAt w u2 x2) (t : TypeId) (k : Nat) (hk : w.heap.size = k) : MatAt (w.alloc (.cells #[u1, u2] t)) (.slice (some ⟨k, 0, none⟩) 2 2) [x1, x2] := by
  subst hk
  refine ⟨_, 2, rfl, Nat.le_refl _, by show 2 ≤ 9223372036854775807; omega, fun i hi => ?_⟩
  match i, hi with
  | 0, _ => exact ⟨w.heap.size, 0, u1, rfl, alloc1_0 _ _ _ _, h1.nb (nb_alloc _ _)⟩
  | 1, _ => exact ⟨w.heap.size, 0, u2, rfl, alloc1_1 _ _ _ _, h2.nb (nb_alloc _ _)⟩
/-- Two rows of two in a row, and the matrix of them. -/
theorem lit_22 (w : World) (a b c d : Int) (t s : TypeId) (ha : I64 a) (hb : I64 b) (hc : I64 c) (hd : I64 d) :
    MatAt (((w.alloc (.cells #[.int .i64 a, .int .i64 b] t)).alloc (.cells #[.int .i64 c, .int .i64 d] t)).alloc (.cells #[.slice (some ⟨w.heap.size, 0, none⟩) 2 2, .slice (some ⟨w.heap.size + 1, 0, none⟩) 2 2] s)) (.slice (some ⟨w.heap.size + 1 + 1, 0, none⟩) 2 2) [[a, b], [c, d]] :=
  lit_mat2 ((lit_row2 w a b t _ rfl ha hb).nb (nb_alloc _ _)) (lit_row2 _ c d t _ (alloc_size _ _) hc hd) s _ (by rw [alloc_size, alloc_size])
theorem lit_23 (w : World) (a b c d e f : Int) (t s : TypeId) (ha : I64 a) (hb : I64 b) (hc : I64 c) (hd : I64 d) (he : I64 e) (hf : I64 f) :
    MatAt (((w.alloc (.cells #[.int .i64 a, .int .i64 b, .int .i64 c] t)).alloc (.cells #[.int .i64 d, .int .i64 e, .int .i64 f] t)).alloc (.cells #[.slice (some ⟨w.heap.size, 0, none⟩) 3 3, .slice (some ⟨w.heap.size + 1, 0, none⟩) 3 3] s)) (.slice (some ⟨w.heap.size + 1 + 1, 0, none⟩) 2 2) [[a, b, c], [d, e, f]] :=
  lit_mat2 ((lit_row3 w a b c t _ rfl ha hb hc).nb (nb_alloc _ _)) (lit_row3 _ d e f t _ (alloc_size _ _) hd he hf) s _ (by rw [alloc_size, alloc_size])
instance (x : Int) : Decidable (I64 x) := by unfold I64; infer_instance
theorem size3 (w : World) (o1 o2 o3 : Obj) : (((w.alloc o1).alloc o2).alloc o3).heap.size = w.heap.size + 1 + 1 + 1 := by rw [alloc_size, alloc_size, alloc_size]
/-- A second matrix behind a first one. -/
theorem lit_22b (w : World) (o1 o2 o3 : Obj) (a b c d : Int) (t s : TypeId) (ha : I64 a) (hb : I64 b) (hc : I64 c) (hd : I64 d) :
    MatAt ((((((w.alloc o1).alloc o2).alloc o3).alloc (.cells #[.int .i64 a, .int .i64 b] t)).alloc (.cells #[.int .i64 c, .int .i64 d] t)).alloc (.cells #[.slice (some ⟨w.heap.size + 1 + 1 + 1, 0, none⟩) 2 2, .slice (some ⟨w.heap.size + 1 + 1 + 1 + 1, 0, none⟩) 2 2] s)) (.slice (some ⟨w.heap.size + 1 + 1 + 1 + 1 + 1, 0, none⟩) 2 2) [[a, b], [c, d]] := by
  have h := lit_22 (((w.alloc o1).alloc o2).alloc o3) a b c d t s ha hb hc hd
  rw [size3] at h
  exact h
theorem eq_same (W : World) (va vb : Value) (A : List (List Int)) (ha : MatAt W va A) (hb : MatAt W vb A) : Calls Tryz.prog 17 #[va, vb] W fun e w' => e = .returned (.bool true) ∧ Below W.heap.size W w' :=
  (eqMat_any W va vb A A ha hb).mono (by rintro e w' ⟨he, hw⟩; exact ⟨by rw [he, decide_eq_true rfl], hw⟩)
theorem eqr_same (W : World) (va vb : Value) (A : List Int) (ha : RowAt W va A) (hb : RowAt W vb A) : Calls Tryz.prog 26 #[va, vb] W fun e w' => e = .returned (.bool true) ∧ Below W.heap.size W w' :=
  (eqRows_any W va vb A A ha hb).mono (by rintro e w' ⟨he, hw⟩; exact ⟨by rw [he, decide_eq_true rfl], hw⟩)
theorem nb3 (w : World) (o1 o2 o3 : Obj) : Below w.heap.size w (((w.alloc o1).alloc o2).alloc o3) := allocs3 w o1 o2 o3
theorem nb6 (w : World) (o1 o2 o3 o4 o5 o6 : Obj) : Below w.heap.size w ((((((w.alloc o1).alloc o2).alloc o3).alloc o4).alloc o5).alloc o6) := nb_trans (nb3 w o1 o2 o3) (nb3 _ o4 o5 o6)

set_option maxRecDepth 100000 in
set_option maxHeartbeats 1600000 in
theorem known_any (w : World) (hG : GOk w) : Calls Tryz.prog 10 #[] w fun e w' => e = .returned (.bool true) ∧ Below w.heap.size w w' ∧ GOk w' := by
  have FO := Lib.hid (fun W v h hg => known_form W v h hg)
  have RE := Lib.hid (fun W v x h hx hg => known_reduce W v x h hx hg)
  have IX := Lib.hid (fun W v x h hx hg => known_index W v x h hx hg)
  have EQ := Lib.hid (fun W va vb (A : List (List Int)) (ha : MatAt W va A) (hb : MatAt W vb A) => eq_same W va vb A ha hb)
  have ER := Lib.hid (fun W va vb (A : List Int) (ha : RowAt W va A) (hb : RowAt W vb A) => eqr_same W va vb A ha hb)
  rw [show tx 6 = (⟨#[54]⟩ : ByteArray) from bytes_ext (by rw [tx_list]; decide +kernel)] at IX
  go_enter Tryz.func10, Tryz.ntmps10
  go_wp2_with (first
    | (go_at_call 12; go_loud (refine (FO.out _ _ (lit_23 _ _ _ _ _ _ _ _ _ (by decide) (by decide) (by decide) (by decide) (by decide) (by decide)) (hG.below (nb3 _ _ _ _))).mono ?_; rintro e w1 ⟨u1, rfl, hm1, hb1⟩))
    | (go_at_call 38; go_loud (refine (RE.out _ _ _ ((lit_22 w1 2 0 0 3 _ _ (by decide) (by decide) (by decide) (by decide)).nb (nb_alloc _ _)) (lit_row2 _ 5 (-1) _ _ (size3 _ _ _ _) (by decide) (by decide)) ((hG.below (nb_trans (nb3 _ _ _ _) hb1)).below (nb_trans (nb3 _ _ _ _) (nb_alloc _ _)))).mono ?_; rintro e w2 ⟨x1, x2, rfl, hr1, hr2, hb2, hg2⟩; have hb12 := nb_trans (nb_trans (nb3 w1 _ _ _) (nb_alloc _ _)) hb2))
    | (go_at_call 14; go_loud (refine (IX.out _ _ _ ((lit_22 w2 1 0 0 1 _ _ (by decide) (by decide) (by decide) (by decide)).nb (nb3 _ _ _ _)) (lit_22b w2 _ _ _ 2 0 0 3 _ _ (by decide) (by decide) (by decide) (by decide)) (hg2.below (nb6 _ _ _ _ _ _ _))).mono ?_; rintro e w3 ⟨rfl, hb3⟩; have hb23 := nb_trans (nb6 w2 _ _ _ _ _ _) hb3))
    | (go_at_call 17; refine (EQ.out _ _ _ _ ((hm1.nb hb12).nb (nb_trans hb23 (nb3 _ _ _ _))) (lit_23 w3 1 20 (-14) 0 28 (-19) _ _ (by decide) (by decide) (by decide) (by decide) (by decide) (by decide))).mono ?_; rintro e w4 ⟨rfl, hb4⟩; have hb34 := nb_trans (nb3 w3 _ _ _) hb4)
    | (go_at_call 26; have _t := hb5; refine (ER.out _ _ _ _ (hr2.nb (nb_trans hb23 (nb_trans hb34 (nb_trans (nb_alloc _ _) (nb_trans hb5 (nb_alloc _ _)))))) (lit_row2 _ 2 (-1) _ _ rfl (by decide) (by decide))).mono ?_; rintro e w6 ⟨rfl, hb6⟩)
    | (go_at_call 26; refine (ER.out _ _ _ _ (hr1.nb (nb_trans hb23 (nb_trans hb34 (nb_alloc _ _)))) (lit_row2 _ 1 2 _ _ rfl (by decide) (by decide))).mono ?_; rintro e w5 ⟨rfl, hb5⟩))
  go_ret
  have hbe := nb_trans (nb_trans (nb3 w _ _ _) hb1) (nb_trans hb12 (nb_trans hb23 (nb_trans hb34 (nb_trans (nb_alloc _ _) (nb_trans hb5 (nb_trans (nb_alloc _ _) hb6))))))
  exact ⟨rfl, hbe, hG.below hbe⟩
end Go.Proofs.YtmfkpmepgbjmkaaGreatDoor

namespace Go.Proofs.YtmfkpmepgbjmkaaGreatDoor
open Go.RowKit

set_option maxRecDepth 100000 in
set_option maxHeartbeats 3200000 in
theorem checks_any (w : World) (v : Value) (M : List (List Int)) (h : MatAt w v M) (hG : GOk w) :
    Calls Tryz.prog 5 #[v] w fun e w' => e = .returned (.bool true) ∧ Below w.heap.size w w' := by
  have KN := Lib.hid (fun W hg => known_any W hg)
  have FW := Lib.hid (fun W (hW : Below w.heap.size w W) => few_any W v M (h.nb hW))
  have RC := Lib.hid (fun W (hW : Below w.heap.size w W) => refCheck_any W v M (h.nb hW))
  have NN := Lib.hid (fun W => none_nil W)
  by_cases h0 : chkM M = 0
  · have hR := chkM_zero h0
    have IF : Hid (∀ W, Below w.heap.size w W → Calls Tryz.prog 16 #[v] W fun e w' => e = .returned (.tuple #[.bool (isFormB M), .int .i64 0]) ∧ Below W.heap.size W w') := Lib.hid (fun W hW => (isForm_out W v M (h.nb hW)).mono (by
      rintro e w' ⟨h1 | h1, hb⟩
      · exact absurd h0 h1.1
      · exact ⟨h1.2, hb⟩))
    have RI := Lib.hid (fun W (hW : Below w.heap.size w W) => refIsForm_any W v M _ (h.nb hW) hR.row (by have := hR.cols; omega))
    have PV := Lib.hid (fun W (hW : Below w.heap.size w W) => pivots_any W v M (h.nb hW))
    have RP := Lib.hid (fun W (hW : Below w.heap.size w W) => refPivots_any W v M (h.nb hW) (by have := hR.len; omega))
    have EQ := Lib.hid (fun W va vb (A : List Int) (ha : RowAt W va A) (hb : RowAt W vb A) => eqr_same W va vb A ha hb)
    rw [h0] at RC
    cases hz : isFormB M with
    | false =>
      have P7 : Hid (∀ W, Below w.heap.size w W → Calls Tryz.prog 21 #[v] W fun e w' => e = .returned (.tuple #[.slice none 0 0, .int .i64 7]) ∧ Below W.heap.size W w') := Lib.hid (fun W hW => (PV.out W hW).mono (by
        rintro e w' ⟨h1 | h1 | h1, hb⟩
        · exact absurd h0 h1.1
        · exact ⟨h1.2.2, hb⟩
        · rw [hz] at h1; exact absurd h1.2.1 (by decide)))
      rw [hz] at IF RI
      clear PV RP EQ hz h0 hR h
      go_enter Tryz.func5, Tryz.ntmps5
      go_upto_if 20 with (first
        | (go_at_call 10; refine (KN.out _ hG).mono ?_; rintro e w1 ⟨rfl, hb1, hg1⟩)
        | (go_at_call 19; refine (FW.out _ hb1).mono ?_; rintro e w2 ⟨b, rfl, hb2⟩; have hb12 := nb_trans hb1 hb2))
      cases b with
      | false =>
        go_wp2_with (go_at_call 10; refine (KN.out _ (hG.below hb12)).mono ?_; rintro e w3 ⟨rfl, hb3, hg3⟩)
        go_ret
        exact ⟨rfl, nb_trans hb12 hb3⟩
      | true =>
        go_wp2_with (first
          | (go_at_call 20; refine (RC.out _ hb12).mono ?_; rintro e w3 ⟨rfl, hb3⟩; have hb13 := nb_trans hb12 hb3)
          | (go_at_call 16; refine (IF.out _ hb13).mono ?_; rintro e w4 ⟨rfl, hb4⟩; have hb14 := nb_trans hb13 hb4)
          | (go_at_call 21; refine (P7.out _ hb14).mono ?_; rintro e w5 ⟨rfl, hb5⟩; have hb15 := nb_trans hb14 hb5)
          | (go_at_call 25; refine (RI.out _ hb15).mono ?_; rintro e w6 ⟨rfl, hb6⟩; have hb16 := nb_trans hb15 hb6))
        go_ret
        exact ⟨rfl, hb16⟩
    | true =>
      have P0 : Hid (∀ W, Below w.heap.size w W → Calls Tryz.prog 21 #[v] W fun e w' => ∃ u, e = .returned (.tuple #[u, .int .i64 0]) ∧ RowAt w' u (M.map pv) ∧ Below W.heap.size W w') := Lib.hid (fun W hW => (PV.out W hW).mono (by
        rintro e w' ⟨h1 | h1 | h1, hb⟩
        · exact absurd h0 h1.1
        · rw [hz] at h1; exact absurd h1.2.1 (by decide)
        · obtain ⟨_, _, u, he, hr⟩ := h1
          exact ⟨u, he, hr, hb⟩))
      rw [hz] at IF RI
      clear PV hz h0 hR h
      go_enter Tryz.func5, Tryz.ntmps5
      go_upto_if 20 with (first
        | (go_at_call 10; refine (KN.out _ hG).mono ?_; rintro e w1 ⟨rfl, hb1, hg1⟩)
        | (go_at_call 19; refine (FW.out _ hb1).mono ?_; rintro e w2 ⟨b, rfl, hb2⟩; have hb12 := nb_trans hb1 hb2))
      cases b with
      | false =>
        go_wp2_with (go_at_call 10; refine (KN.out _ (hG.below hb12)).mono ?_; rintro e w3 ⟨rfl, hb3, hg3⟩)
        go_ret
        exact ⟨rfl, nb_trans hb12 hb3⟩
      | true =>
        go_wp2_with (first
          | (go_at_call 20; refine (RC.out _ hb12).mono ?_; rintro e w3 ⟨rfl, hb3⟩; have hb13 := nb_trans hb12 hb3)
          | (go_at_call 16; refine (IF.out _ hb13).mono ?_; rintro e w4 ⟨rfl, hb4⟩; have hb14 := nb_trans hb13 hb4)
          | (go_at_call 21; refine (P0.out _ hb14).mono ?_; rintro e w5 ⟨u, rfl, hr5, hb5⟩; have hb15 := nb_trans hb14 hb5)
          | (go_at_call 25; refine (RI.out _ hb15).mono ?_; rintro e w6 ⟨rfl, hb6⟩; have hb16 := nb_trans hb15 hb6)
          | (go_at_call 27; refine (RP.out _ hb16).mono ?_; rintro e w7 ⟨u', rfl, hr7, hb7⟩; have hb17 := nb_trans hb16 hb7)
          | (go_at_call 26; refine (EQ.out _ _ _ _ (hr5.nb (nb_trans hb6 hb7)) hr7).mono ?_; rintro e w8 ⟨rfl, hb8⟩; have hb18 := nb_trans hb17 hb8))
        go_ret
        exact ⟨rfl, hb18⟩
  · have IF : Hid (∀ W, Below w.heap.size w W → Calls Tryz.prog 16 #[v] W fun e w' => e = .returned (.tuple #[.bool false, .int .i64 (chkM M)]) ∧ Below W.heap.size W w') := Lib.hid (fun W hW => (isForm_out W v M (h.nb hW)).mono (by
      rintro e w' ⟨h1 | h1, hb⟩
      · exact ⟨h1.2, hb⟩
      · exact absurd h1.1 h0))
    have PV : Hid (∀ W, Below w.heap.size w W → Calls Tryz.prog 21 #[v] W fun e w' => e = .returned (.tuple #[.slice none 0 0, .int .i64 (chkM M)]) ∧ Below W.heap.size W w') := Lib.hid (fun W hW => (pivots_any W v M (h.nb hW)).mono (by
      rintro e w' ⟨h1 | h1 | h1, hb⟩
      · exact ⟨h1.2, hb⟩
      · exact absurd h1.1 h0
      · exact absurd h1.1 h0))
    have FO : Hid (∀ W, Below w.heap.size w W → Calls Tryz.prog 12 #[v] W fun e w' => e = .returned (.tuple #[.slice none 0 0, .int .i64 (chkM M)]) ∧ Below W.heap.size W w') := Lib.hid (fun W hW => (form_bad W v M (h.nb hW) h0).mono (by
      rintro e w' ⟨h1 | h1, hb⟩
      · exact ⟨h1.2, hb⟩
      · exact absurd h1.1 h0))
    have TR := Lib.hid (fun W (hW : Below w.heap.size w W) => transform_bad W v M (h.nb hW) h0)
    have UN := Lib.hid (fun W (hW : Below w.heap.size w W) => unimodular_bad W v M (h.nb hW) h0)
    obtain ⟨k, hk⟩ : ∃ k, k = chkM M := ⟨_, rfl⟩
    rw [← hk] at RC IF PV FO TR UN h0
    have hd : (k != 0) = true := int_bne h0
    clear h0 hk h
    go_enter Tryz.func5, Tryz.ntmps5
    go_upto_if 20 with (first
      | (go_at_call 10; refine (KN.out _ hG).mono ?_; rintro e w1 ⟨rfl, hb1, hg1⟩)
      | (go_at_call 19; refine (FW.out _ hb1).mono ?_; rintro e w2 ⟨b, rfl, hb2⟩; have hb12 := nb_trans hb1 hb2))
    cases b with
    | false =>
      go_wp2_with (go_at_call 10; refine (KN.out _ (hG.below hb12)).mono ?_; rintro e w3 ⟨rfl, hb3, hg3⟩)
      go_ret
      exact ⟨rfl, nb_trans hb12 hb3⟩
    | true =>
      go_wp2_with (first
        | (go_at_call 20; refine (RC.out _ hb12).mono ?_; rintro e w3 ⟨rfl, hb3⟩; have hb13 := nb_trans hb12 hb3)
        | (go_at_call 16; refine (IF.out _ hb13).mono ?_; rintro e w4 ⟨rfl, hb4⟩; have hb14 := nb_trans hb13 hb4)
        | (go_at_call 21; refine (PV.out _ hb14).mono ?_; rintro e w5 ⟨rfl, hb5⟩; have hb15 := nb_trans hb14 hb5)
        | (go_at_call 12; refine (FO.out _ hb15).mono ?_; rintro e w6 ⟨rfl, hb6⟩; have hb16 := nb_trans hb15 hb6)
        | (go_at_call 22; refine (TR.out _ hb16).mono ?_; rintro e w7 ⟨rfl, hb7⟩; have hb17 := nb_trans hb16 hb7)
        | (go_at_call 23; refine (UN.out _ hb17).mono ?_; rintro e w8 ⟨rfl, hb8⟩; have hb18 := nb_trans hb17 hb8)
        | (go_at_call 24; refine (NN.out _).mono ?_; rintro e w9 ⟨rfl, rfl⟩))
      go_ret
      exact ⟨rfl, hb18⟩
end Go.Proofs.YtmfkpmepgbjmkaaGreatDoor

namespace Go.Proofs.YtmfkpmepgbjmkaaGreatDoor
open Go.ChangeShapes Go.WideShapes Go.ChangeAt Go.RowKit

theorem Tryz.own : ownKnob Tryz.prog.godebug = none := by kernel_rfl
theorem Tryz.laidOut : laidOutB Tryz.prog = true := by kernel_rfl
/-- The variables that the rows list. -/
abbrev LAID : List (String × DataW Unit) := [("math/bits.deBruijn32tab", Rows.laid_math_bits_deBruijn32tab), ("math/bits.deBruijn64tab", Rows.laid_math_bits_deBruijn64tab), ("internal/strconv.uint64pow10", Rows.laid_internal_strconv_uint64pow10), ("strconv.ErrRange", Rows.laid_strconv_ErrRange), ("strconv.ErrSyntax", Rows.laid_strconv_ErrSyntax)]

noncomputable def gty (g : Nat) : TypeId := ((Tryz.prog.globals[g]?).map (·.type)).getD 0
noncomputable def isIface (t : TypeId) : Bool := match Tryz.prog.underlying t with
  | some (.interface _) => true
  | _ => false
theorem isIface_spec {t : TypeId} (h : isIface t = true) : ∃ ms, Tryz.prog.underlying t = some (.interface ms) := by
  unfold isIface at h
  split at h
  · rename_i ms hm; exact ⟨ms, hm⟩
  · cases h
theorem iface_var {n nm : String} {d : DataW Unit} {r : List (String × DataW Unit)} {W : World} {g : Nat} (h : laidMet Tryz.prog ((n, .iface nm d) :: r) W) (hg : Tryz.prog.globalNamed n = some g) (hty : (Tryz.prog.globals[g]?).map (·.type) = some (gty g)) (hi : isIface (gty g) = true) :
    ∃ tp p, W.var? Tryz.prog n = some #[.iface tp p] := by
  obtain ⟨ms, hms⟩ := isIface_spec hi
  obtain ⟨ps, ⟨g', t', cs, fuel, p, q, hg', ht', hvar, hd, _, _⟩, _⟩ := h
  obtain rfl := Option.some.inj (hg.symm.trans hg')
  obtain rfl := Option.some.inj (hty.symm.trans ht')
  obtain ⟨l⟩ := cs
  obtain ⟨f1, u, v, hl, _, _⟩ := iface_of_trod hms hd
  have hl' : l = [.iface u v] := hl
  subst hl'
  exact ⟨u, v, hvar⟩
theorem gok_of_laid {W : World} (h : laidMetH Tryz.prog LAID W) : GOk W := by
  have hL : laidMet Tryz.prog LAID W := by rwa [MakeChecks.laidMetH_plain _ _ _ (by kernel_rfl)] at h
  have h3 := hL.tail.tail
  have h4 := h3.tail
  have h5 := h4.tail
  refine ⟨?_, ?_, ?_⟩
  · exact Lib.tabIs_of_head (t := gty 0) (e := 166) (n := 20) (g := 0) (by kernel_rfl) (by kernel_rfl) (by kernel_rfl) (by kernel_rfl) (by kernel_rfl) (by kernel_rfl) h3
  · exact iface_var h4 (g := 3) (by kernel_rfl) (by kernel_rfl) (by kernel_rfl)
  · exact iface_var h5 (g := 2) (by kernel_rfl) (by kernel_rfl) (by kernel_rfl)

/-- The door's own heap meets the condition: closed facts. -/
theorem door_met (os : Os) (args : Array Value) : laidMetH Tryz.prog LAID ((World.doorLaid Tryz.prog 4000 os).forCall (fun _ _ => 0) ⟨#[], args, []⟩).memory :=
  laidMetH_of_parts3 (fuel := 8) (laidMet_of_run' 8 (by kernel_rfl) (by kernel_rfl)) (by kernel_rfl) (by kernel_rfl)

theorem i64_of_wf {n : Int} (h : (Lit.int .i64 n).wf = true) : I64 n := by
  have := Extern.FmtText.int_bounds h
  simpa [I64, IntKind.min, IntKind.max, IntKind.signed, IntKind.bits] using this
/-- A row, as an opened input has it. -/
theorem rowAt_of {W : World} {A : Option Addr} {L C : Nat} {Z : List Int} (h1 : L ≤ C) (h2 : C ≤ maxLen) (h3 : Z.length = C) (h4 : ∀ n ∈ Z, (Lit.int .i64 n).wf = true) (h5 : A = none → C = 0)
    (h6 : ∀ a', A = some a' → ∀ c, c < C → W.cell? (a'.add c) = some (.int .i64 (Z.getD c 0))) : RowAt W (.slice A L C) (Z.take L) := by
  have hl : (Z.take L).length = L := by rw [List.length_take]; omega
  refine ⟨A, C, by rw [hl], by rw [hl]; exact h1, by rw [hl]; unfold maxLen at h2; omega, fun x hx => i64_of_wf (h4 x (List.mem_of_mem_take hx)), fun j hj => ?_⟩
  rw [hl] at hj
  cases A with
  | none => have := h5 rfl; omega
  | some a =>
    have hc0 := h6 a rfl 0 (by omega)
    have hcj := h6 a rfl j (by omega)
    have hs : a.spot = none := by
      have := World.cell?_spot hc0
      simpa [Addr.add] using this
    obtain ⟨b, o, s⟩ := a
    have hs' : s = none := hs
    subst hs'
    refine ⟨b, o, rfl, ?_⟩
    rw [add_plain] at hcj
    rw [hcj, List.getD_eq_getElem?_getD, List.getD_eq_getElem?_getD, List.getElem?_take_of_lt hj]
/-- A matrix that comes in. -/
theorem mat_in {H : Type} {enc : TypeId × Value → H} {W : World} {base fuel : Nat} {held : Bool} {v : Value} {x : DataW H × List MemPlace} (h : DataW.trod enc Tryz.prog W base (fun _ => true) held fuel 29 [v] = some x) : ∃ M, MatAt W v M := by
  rcases Deep.open_int_rows (k := .i64) (e := 35) (q := 3) Tryz.underlying29 Tryz.underlying35 Tryz.underlying3 (by kernel_rfl) (by kernel_rfl) h with ⟨hcs, _⟩ | ⟨a, len, cap, A, L, C, Z, hcs, _, hl, hm, _, hrows⟩
  · injection hcs with hcs
    subst hcs
    exact ⟨[], none, 0, rfl, Nat.le_refl _, by simp, fun i hi => by simp at hi⟩
  · injection hcs with hcs
    subst hcs
    refine ⟨(List.range len).map fun r => (Z r).take (L r), some a, cap, by simp, by simpa using hl, by unfold maxLen at hm; simp; omega, fun i hi => ?_⟩
    have hi' : i < len := by simpa using hi
    obtain ⟨hc, q1, q2, q3, q4, q5, q6⟩ := hrows i (by omega)
    obtain ⟨hc0, _⟩ := hrows 0 (by omega)
    have hs : a.spot = none := by
      have := World.cell?_spot hc0
      simpa [Addr.add] using this
    obtain ⟨b, o, s⟩ := a
    have hs' : s = none := hs
    subst hs'
    refine ⟨b, o, _, rfl, by rw [add_plain] at hc; exact hc, ?_⟩
    have e : ((List.range len).map fun r => (Z r).take (L r)).getD i [] = (Z i).take (L i) := by
      rw [List.getD_eq_getElem?_getD, List.getElem?_map, List.getElem?_range hi']; rfl
    rw [e]
    exact rowAt_of q1 q2 q3 q4 q5 (fun a' ha => (q6 a' ha).2)
end Go.Proofs.YtmfkpmepgbjmkaaGreatDoor
