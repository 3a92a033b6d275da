/-
  WALKS: decimal.pieces' small (a division by one digit) and scaled.
-/
import Derived.Test.YtmfkpmepgbjmkaaGreatDoorTimes
set_option linter.unusedVariables false
set_option linter.unusedSimpArgs false
namespace Go.Proofs.YtmfkpmepgbjmkaaGreatDoor
open Go.RowKit

/-- The digits from place i on are divided. -/
structure Short (n i : Nat) (d r : Int) (ds o : List Int) : Prop where
  len : o.length = n
  dig : Dig o
  val : val (ds.drop i) = d * val (o.drop i) + r
  r0 : 0 ≤ r
  r1 : r < d
theorem val_drop_cons (l : List Int) (i : Nat) (h : i < l.length) : val (l.drop i) = l.getD i 0 + 1000000000 * val (l.drop (i + 1)) := by
  rw [List.drop_eq_getElem_cons h, List.getD_eq_getElem?_getD, List.getElem?_eq_getElem h]
  rfl
theorem drop_set (l : List Int) (i : Nat) (x : Int) : (l.set i x).drop (i + 1) = l.drop (i + 1) := by
  rw [List.drop_set]
  simp
theorem Short.start (n : Nat) (d : Int) (ds : List Int) (hl : ds.length = n) (h : 0 < d) : Short n n d 0 ds (List.replicate n 0) :=
  ⟨by simp, Dig.zeros _, by rw [List.drop_eq_nil_of_le (by omega), List.drop_eq_nil_of_le (by simp)]; simp [Go.Proofs.YtmfkpmepgbjmkaaGreatDoor.val], by decide, h⟩
theorem Short.step {n i : Nat} {d r : Int} {ds o : List Int} (h : Short n (i + 1) d r ds o) (hi : i < n) (hl : ds.length = n) (hd : Dig ds) (d1 : d ≤ 1000000000) :
    Short n i d ((r * 1000000000 + ds.getD i 0) % d) ds (o.set i ((r * 1000000000 + ds.getD i 0) / d)) := by
  obtain ⟨x0, x1⟩ := hd.at_ i
  have r0 := h.r0
  have r1 := h.r1
  have hv := h.val
  have hol := h.len
  generalize hx : ds.getD i 0 = x at *
  have dpos : 0 < d := by omega
  have q0 : 0 ≤ (r * 1000000000 + x) / d := Int.ediv_nonneg (by omega) (by omega)
  have q1 : (r * 1000000000 + x) / d < 1000000000 := by
    apply Int.ediv_lt_of_lt_mul dpos
    have : r * 1000000000 + 1000000000 ≤ d * 1000000000 := by omega
    rw [Int.mul_comm]
    omega
  refine ⟨by rw [List.length_set]; exact h.len, h.dig.set _ q0 q1, ?_, Int.emod_nonneg _ (by omega), Int.emod_lt_of_pos _ dpos⟩
  rw [val_drop_cons ds i (by omega), val_drop_cons (o.set i _) i (by rw [List.length_set]; omega), getD_set_eq _ (by omega), drop_set, hv, hx]
  have e := Int.mul_ediv_add_emod (r * 1000000000 + x) d
  generalize (r * 1000000000 + x) / d = q at *
  generalize (r * 1000000000 + x) % d = s at *
  generalize Go.Proofs.YtmfkpmepgbjmkaaGreatDoor.val (o.drop (i + 1)) = y at *
  grind

def SmallPost (p : List Int) (d : Int) (w : World) (e : Ending) (w' : World) : Prop :=
  ∃ v ds r, e = .returned (.tuple #[v, .int .u64 r]) ∧ Pc w.heap.size w' v ds ∧ val p = d * val ds + r ∧ 0 ≤ r ∧ r < d ∧ ds.length ≤ p.length ∧ Below w.heap.size w w'

set_option maxRecDepth 100000 in
set_option maxHeartbeats 1600000 in
theorem smallDiv_any (A : Option Addr) (n c : Nat) (d : Int) (ds : List Int) (w : World) (hr : Rd .u64 w A n ds)
    (hn : n ≤ 1000000000000) (hd : Dig ds) (d0 : 0 < d) (d1 : d ≤ 1000000000) :
    Calls Tryz.prog 134 #[.slice A n c, .int .u64 d] w (SmallPost ds d w) := by
  have H1 := Lib.hid hr
  have HD := Lib.hid hd
  have L1 := Lib.hid hr.1
  clear hr hd
  have hmk := fun W => run_make_row' (P := Tryz.prog) 171 166 (.int .u64 0) 8 Tryz.underlying171 Tryz.infoU rfl .i64 .i64 n (by omega) (by omega) W
  go_enter Tryz.func134, Tryz.ntmps134
  go_wp2_with fail
  go_loopw [7, 8] (fun sr si wr => ∃ (i r : Int) (o : List Int), -1 ≤ i ∧ i < (n : Int) ∧ sr = .int .u64 r ∧ si = .int .i64 i ∧ UB wr w.heap.size o ∧ Hid (Short n (i + 1).toNat d r ds o) ∧ Below w.heap.size w wr) (fun _ si _ => (intOf si + 1).toNat)
  case atStart =>
    refine ⟨(n : Int) - 1, 0, _, by omega, by omega, rfl, rfl, UB.made w n, ?_, nb_alloc _ _⟩
    have := Short.start n d ds L1.out d0
    rw [show ((n : Int) - 1 + 1).toNat = n by omega]
    exact this
  case round =>
    obtain ⟨i, r, o, hi0, hi1, rfl, rfl, hub, ho, hb⟩ := hrel
    by_cases h0 : 0 ≤ i
    · obtain ⟨g, hA, c1⟩ := (H1.out.nb hb).at_ (i := i.toNat) (by omega)
      subst hA
      obtain ⟨x, hx⟩ : ∃ x, x = ds.getD i.toNat 0 := ⟨_, rfl⟩
      rw [← hx] at c1
      obtain ⟨x0, x1⟩ : 0 ≤ x ∧ x < 1000000000 := by rw [hx]; exact HD.out.at_ _
      have r0 := ho.out.r0
      have r1 := ho.out.r1
      have hol := ho.out.len
      have c2 := hub.cell (i := i.toNat) (by omega)
      have c3 := hub.frozen i.toNat
      have HX := Lib.hid hx
      have HL := Lib.hid hol
      clear hx hol
      have e1 : (i + 1).toNat = i.toNat + 1 := by omega
      have hst : Hid (Short n i.toNat d ((r * 1000000000 + x) % d) ds (o.set i.toNat ((r * 1000000000 + x) / d))) := by
        have h2 := ho.out
        rw [e1] at h2
        have := h2.step (by omega) L1.out HD.out d1
        rw [← HX.out] at this
        exact this
      clear e1
      go_wp2_with fail
      go_roundw
      case rel =>
        refine ⟨i - 1, _, _, by omega, by omega, rfl, rfl, hub.set _ _, ?_, hb.setCell (p := ⟨w.heap.size, i.toNat, none⟩) (Nat.le_refl _) _⟩
        rw [show i - 1 + 1 = i by omega]
        exact hst
      case measure => simp [intOf]; omega
    · obtain rfl : i = -1 := by omega
      have hol : Hid (o.length = n) := ho.out.len
      have hrd : Hid (Rd .u64 wr (some ⟨w.heap.size, 0, none⟩) n o) := ⟨hol.out, fun j hj => ⟨_, rfl, hub.cell (by rw [hol.out]; exact hj)⟩⟩
      go_wp2_with fail
      refine (trim_any _ _ _ o _ hrd.out (Nat.le_refl _) (by omega)).mono ?_
      rintro e w1 ⟨t, ht, rfl, rfl⟩
      go_wp2_with fail
      go_ret2
      obtain ⟨h1, h2, h3⟩ := hub.trimmed (base := w.heap.size) (Nat.le_refl _) ht ho.out.dig (by rw [hol.out]; simp only [maxLen]; omega)
      rw [hol.out] at h1
      refine ⟨_, o.take t, r, rfl, h1, ?_, ho.out.r0, ho.out.r1, ?_, hb⟩
      · rw [h2]
        exact ho.out.val
      · rw [h3, L1.out]
        have := ht.1
        rw [hol.out] at this
        exact this
end Go.Proofs.YtmfkpmepgbjmkaaGreatDoor
