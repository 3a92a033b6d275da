/-
  WALKS: strconv.FormatUint(u, 10), by the shelf's contracts for its callees (after the shelf's own walk of FormatInt); decimal.Of, decimal.Small, decimal.both.
-/
import Derived.Test.YtmfkpmepgbjmkaaGreatDoorLittle
set_option linter.unusedVariables false
set_option linter.unusedSimpArgs false
namespace Go.Proofs.YtmfkpmepgbjmkaaGreatDoor
open Go.RowKit Go.Sort

set_option maxHeartbeats 6400000 in
set_option maxRecDepth 100000 in
theorem formatUint_inner (u : Nat) (h : u < 18446744073709551616) (w : World) (hG : GOk w) :
    Calls Tryz.prog 170 #[.int .u64 u, .int .i64 10] w fun e w' => e = .returned (.string (tn u)) ∧ Below w.heap.size w w' := by
  by_cases hs : u < 100
  · go_enter Tryz.func170, Tryz.ntmps170
    go_wp2_with (go_at_call 158; refine (Tryz.internal_strconv_small u hs _).mono ?_; rintro e w' ⟨rfl, rfl⟩)
    go_ret
    exact ⟨rfl, nb_refl _⟩
  · have hu1 : 1 ≤ u := by omega
    have hnd20 : Lib.nDigits u ≤ 20 := by have := Lib.numDigits_eq u hu1 h; split at this <;> omega
    have hal : Tryz.prog.arrayLen 196 = 24 := by kernel_rfl
    have hsl1 : ∀ W, (Instr.sliceAt 196 (.pointer (some ⟨w.heap.size, 0, none⟩)) none (some (.int .i64 (Lib.nDigits u : Int))) none).run Tryz.prog W = .ok (.slice (some ⟨w.heap.size, 0, none⟩) (Lib.nDigits u) 24) W := fun W => by
      rw [run_sliceAt_array_h W 196 ⟨w.heap.size, 0, none⟩ (by simp [Program.arrayLen, Program.elem, Tryz.underlying196]) .i64 (Lib.nDigits u : Int) (by omega) (by rw [hal]; omega)]
      go_simp
    have hH0 : Holds (fun (b : UInt8) => Value.int .u8 (b.toNat : Int)) (w.alloc (.cells Lib.zeros24 196)) w.heap.size 0 (Array.replicate (Lib.nDigits u) (0 : UInt8)) := fun j hj => by
      have hj' : j < Lib.nDigits u := by simpa using hj
      refine ⟨?_, ?_⟩
      · rw [World.cell?_alloc_new]
        simp only [Nat.zero_add]
        rw [Lib.zeros24_at j (by omega)]
        simp [hj']
      · exact World.frozen?_alloc_new _ _ _ _
    have hfmt := Tryz.internal_strconv_formatBase10 w.heap.size 0 24 u (Array.replicate (Lib.nDigits u) 0) (w.alloc (.cells Lib.zeros24 196)) hH0 (by rw [Array.size_replicate]; exact Lib.lt_pow_nDigits u) h (by rw [Array.size_replicate]; omega)
    rw [Array.size_replicate] at hfmt
    have HH0 := Lib.hid hH0
    clear hH0 hal
    go_enter Tryz.func170, Tryz.ntmps170
    go_wp2_with (go_at_call 159; refine (Tryz.internal_strconv_numDigits u hu1 h _ (Lib.tabIs_alloc hG.tab _)).mono ?_; rintro e w' ⟨rfl, rfl⟩)
    go_at_call 160
    refine hfmt.mono ?_
    rintro e w' ⟨rfl, k, v', dk, rfl, hF⟩
    have hcv : (convert 147 9 (.slice (some ⟨w.heap.size, 0, none⟩) (Lib.nDigits u) 24)).run Tryz.prog ((putRow (fun (b : UInt8) => Value.int .u8 (b.toNat : Int)) (w.alloc (.cells Lib.zeros24 196)) w.heap.size 0 dk).drewN k) = .ok (.string ⟨(Lib.decDigits u).toArray⟩) ((putRow (fun (b : UInt8) => Value.int .u8 (b.toNat : Int)) (w.alloc (.cells Lib.zeros24 196)) w.heap.size 0 dk).drewN k) := by
      have h := run_convert_bytes_back (P := Tryz.prog) ((putRow (fun (b : UInt8) => Value.int .u8 (b.toNat : Int)) (w.alloc (.cells Lib.zeros24 196)) w.heap.size 0 dk).drewN k) 147 9 5 ⟨w.heap.size, 0, none⟩ 24 (Lib.decDigits u) Tryz.underlying147 Tryz.underlying5 Tryz.underlying9 (fun j hj => by
        rw [Lib.row_is_numeral hF j hj, Lib.add_plain, World.cell?_drewN]
        exact cell?_putRow (fun (b : UInt8) => Value.int .u8 (b.toNat : Int)) _ w.heap.size 0 _ dk HH0.out (by rw [hF.size, Array.size_replicate]) j (by rw [hF.size]; rw [Lib.decDigits_length] at hj; exact hj))
      rw [Lib.decDigits_length] at h
      exact h
    go_wp2
    go_ret
    refine ⟨rfl, ?_⟩
    rw [alloc_eq_grow]
    obtain ⟨os', _, e⟩ := putRow_grow_new (fun (b : UInt8) => Value.int .u8 (b.toNat : Int)) w #[Obj.cells Lib.zeros24 196] w.heap.size 0 dk (Nat.le_refl _)
    rw [e]
    exact nb_grow w k os'
theorem formatUint_any (u : Nat) (h : u < 18446744073709551616) (w : World) (hG : GOk w) :
    Calls Tryz.prog 155 #[.int .u64 u, .int .i64 10] w fun e w' => e = .returned (.string (tn u)) ∧ Below w.heap.size w w' := by
  go_enter Tryz.func155, Tryz.ntmps155
  go_wp2_with (go_at_call 170; refine (formatUint_inner u h _ hG).mono ?_; rintro e w1 ⟨rfl, hb1⟩)
  go_ret
  exact ⟨rfl, hb1⟩
theorem dec_of (u : Nat) (h : u < 18446744073709551616) (w : World) (hG : GOk w) :
    Calls Tryz.prog 131 #[.int .u64 u] w fun e w' => e = .returned (.string (tn u)) ∧ Below w.heap.size w w' := by
  go_enter Tryz.func131, Tryz.ntmps131
  go_wp2_with (go_at_call 155; refine (formatUint_any u h _ hG).mono ?_; rintro e w1 ⟨rfl, hb1⟩)
  go_ret
  exact ⟨rfl, hb1⟩
theorem parseUint_dec (u : Nat) (h : u < 18446744073709551616) : Lib.parseUintB 64 (Lib.decDigits u) = .ok u := by
  have key : ∀ (l : List UInt8) (acc : Nat), acc < 18446744073709551616 → Lib.parseUintM (2 ^ 64 - 1) acc l = Lib.parseUint10 acc l := by
    intro l
    induction l with
    | nil => intro acc _; rfl
    | cons c l ih =>
      intro acc ha
      simp only [Lib.parseUintM, Lib.parseUint10]
      by_cases h1 : 48 ≤ c.toNat ∧ c.toNat ≤ 57
      · rw [if_pos h1, if_pos h1]
        by_cases h2 : 1844674407370955162 ≤ acc
        · rw [if_pos h2, if_pos h2]
        · rw [if_neg h2, if_neg h2]
          by_cases h3 : 18446744073709551616 ≤ acc * 10 + (c.toNat - 48)
          · rw [if_pos (by omega), if_pos h3]
          · rw [if_neg (by omega), if_neg h3]
            exact ih _ (by omega)
      · rw [if_neg h1, if_neg h1]
  have := parseMag_dec u
  rw [if_pos h] at this
  unfold Lib.parseMag at this
  rw [if_neg (dec_ne u)] at this
  unfold Lib.parseUintB
  rw [if_neg (dec_ne u), key _ _ (by omega), this]
theorem parseUint_ok (u : Nat) (h : u < 18446744073709551616) (hs : (tn u).size ≤ 1000000000000) (w : World) :
    Calls Tryz.prog 169 #[.string (tn u), .int .i64 10, .int .i64 64] w fun e w' => e = .returned (.tuple #[.int .u64 u, .nilIface]) ∧ Below w.heap.size w w' :=
  (Tryz.strconv_ParseUint_10_at64_ok (tn u) (by omega) u (parseUint_dec u h) w).mono fun e w' ⟨he, hw⟩ => ⟨he, by
    rcases hw with rfl | rfl
    · exact nb_refl _
    · exact Lib.bytesWorld_below w _ _⟩
theorem dec_small (u : Nat) (h : u < 18446744073709551616) (hs : (tn u).size ≤ 1000000000000) (w : World) :
    Calls Tryz.prog 154 #[.string (tn u)] w fun e w' => e = .returned (.tuple #[.int .u64 u, .bool true]) ∧ Below w.heap.size w w' := by
  go_enter Tryz.func154, Tryz.ntmps154
  go_wp2_with (go_at_call 169; refine (parseUint_ok u h hs _).mono ?_; rintro e w1 ⟨rfl, hb1⟩)
  go_ret2
  exact ⟨rfl, hb1⟩
theorem lt_of_tn {u k : Nat} (h : (tn u).size ≤ k) : u < 10 ^ k := by
  rw [tn_size] at h
  exact Nat.lt_of_lt_of_le (Lib.lt_pow_nDigits _) (Nat.pow_le_pow_right (by omega) h)
theorem both_long (s t : ByteArray) (h : 18 < s.size ∨ 18 < t.size) (hs : s.size ≤ 1000000000000) (ht : t.size ≤ 1000000000000) (w : World) :
    Calls Tryz.prog 130 #[.string s, .string t] w fun e w' => e = .returned (.tuple #[.int .u64 0, .int .u64 0, .bool false]) ∧ Below w.heap.size w w' := by
  by_cases h1 : (18 : Int) < (s.size : Int)
  · go_enter Tryz.func130, Tryz.ntmps130
    go_wp2
    go_ret3
    exact ⟨rfl, nb_refl _⟩
  · have h2 : (18 : Int) < (t.size : Int) := by omega
    have h1' : (s.size : Int) ≤ 18 := by omega
    clear h
    go_enter Tryz.func130, Tryz.ntmps130
    go_wp2
    go_ret3
    exact ⟨rfl, nb_refl _⟩
theorem both_short (u v : Nat) (hu : (tn u).size ≤ 18) (hv : (tn v).size ≤ 18) (w : World) :
    Calls Tryz.prog 130 #[.string (tn u), .string (tn v)] w fun e w' => e = .returned (.tuple #[.int .u64 u, .int .u64 v, .bool true]) ∧ Below w.heap.size w w' := by
  have hu1 := lt_of_tn hu
  have hv1 := lt_of_tn hv
  have hu' : ((tn u).size : Int) ≤ 18 := by omega
  have hv' : ((tn v).size : Int) ≤ 18 := by omega
  have S1 := Lib.hid (fun W => dec_small u (by omega) (by omega) W)
  have S2 := Lib.hid (fun W => dec_small v (by omega) (by omega) W)
  clear hu hv hu1 hv1
  go_enter Tryz.func130, Tryz.ntmps130
  go_wp2_with fail
  refine (S1.out _).mono ?_
  rintro e w1 ⟨rfl, hb1⟩
  go_wp2_with fail
  refine (S2.out _).mono ?_
  rintro e w2 ⟨rfl, hb2⟩
  go_wp2_with fail
  go_ret3
  exact ⟨rfl, nb_trans hb1 hb2⟩
end Go.Proofs.YtmfkpmepgbjmkaaGreatDoor
