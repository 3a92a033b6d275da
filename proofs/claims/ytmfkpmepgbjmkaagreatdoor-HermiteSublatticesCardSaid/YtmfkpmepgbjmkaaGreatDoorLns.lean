/-
  WORDS FOR MEMORY: a slice of hermite's lines.
-/
import Derived.Test.YtmfkpmepgbjmkaaGreatDoorTurn
set_option linter.unusedVariables false
set_option linter.unusedSimpArgs false
namespace Go.Proofs.YtmfkpmepgbjmkaaGreatDoor
open Go.RowKit

/-- A line in memory: the blocks and capacities of its two rows, and what they hold. -/
structure LR where
  gx : Nat
  cx : Nat
  gb : Nat
  cb : Nat
  x : List Int
  b : List Int
def LR.ln (r : LR) : Ln.Ln := (r.x, r.b)
def LR.xv (n : Nat) (r : LR) : Value := .slice (some ⟨r.gx, 0, none⟩) n r.cx
def LR.bv (m : Nat) (r : LR) : Value := .slice (some ⟨r.gb, 0, none⟩) m r.cb
def LR.blk (r : LR) : Nat × Nat := (r.gx, r.gb)
def Ap (p q : Nat × Nat) : Prop := p.1 ≠ q.1 ∧ p.1 ≠ q.2 ∧ p.2 ≠ q.1 ∧ p.2 ≠ q.2
theorem Ap.symm {p q : Nat × Nat} (h : Ap p q) : Ap q p := ⟨h.1.symm, h.2.2.1.symm, h.2.1.symm, h.2.2.2.symm⟩
structure Lns (n m : Nat) (w : World) (B G : Nat) (rs : List LR) : Prop where
  block : ∃ cur : Array Value, w.heap[G]? = some (.cells cur 90 (0, 0)) ∧ ∀ i r, rs[i]? = some r → cur[2 * i]? = some (r.xv n) ∧ cur[2 * i + 1]? = some (r.bv m)
  rows : ∀ r ∈ rs, Row w r.gx r.x ∧ Row w r.gb r.b
  size : ∀ r ∈ rs, r.x.length = n ∧ r.b.length = m
  low : B ≤ G ∧ ∀ r ∈ rs, B ≤ r.gx ∧ B ≤ r.gb
  own : ∀ r ∈ rs, r.gx ≠ r.gb ∧ r.gx ≠ G ∧ r.gb ≠ G
  apart : (rs.map LR.blk).Pairwise Ap

theorem Lns.lt {n m B G : Nat} {w : World} {rs : List LR} (h : Lns n m w B G rs) : G < w.heap.size := by
  obtain ⟨cur, hc, _⟩ := h.block
  exact (Array.getElem?_eq_some_iff.1 hc).1
theorem Lns.xcell {n m B G : Nat} {w : World} {rs : List LR} (h : Lns n m w B G rs) {i : Nat} {r : LR} (hi : rs[i]? = some r) : w.cell? ⟨G, 2 * i, none⟩ = some (r.xv n) := by
  obtain ⟨cur, hc, ht⟩ := h.block
  simp only [World.cell?, hc]
  exact (ht i r hi).1
theorem Lns.bcell {n m B G : Nat} {w : World} {rs : List LR} (h : Lns n m w B G rs) {i : Nat} {r : LR} (hi : rs[i]? = some r) : w.cell? ⟨G, 2 * i + 1, none⟩ = some (r.bv m) := by
  obtain ⟨cur, hc, ht⟩ := h.block
  simp only [World.cell?, hc]
  exact (ht i r hi).2
theorem Lns.frozen {n m B G : Nat} {w : World} {rs : List LR} (h : Lns n m w B G rs) (i : Nat) : w.frozen? ⟨G, i, none⟩ = false := by
  obtain ⟨cur, hc, _⟩ := h.block
  simp [World.frozen?, hc]
theorem Lns.mem {rs : List LR} {i : Nat} {r : LR} (hi : rs[i]? = some r) : r ∈ rs := List.mem_of_getElem? hi
theorem Lns.apart_at {n m B G : Nat} {w : World} {rs : List LR} (h : Lns n m w B G rs) {i j : Nat} {r s : LR} (hi : rs[i]? = some r) (hj : rs[j]? = some s) (hij : i ≠ j) : Ap r.blk s.blk := by
  have hp := List.pairwise_iff_getElem.1 h.apart
  obtain ⟨hi1, hi2⟩ := List.getElem?_eq_some_iff.1 hi
  obtain ⟨hj1, hj2⟩ := List.getElem?_eq_some_iff.1 hj
  rcases Nat.lt_or_gt_of_ne hij with h1 | h1
  · have := hp i j (by simpa using hi1) (by simpa using hj1) h1
    simp only [List.getElem_map, hi2, hj2] at this
    exact this
  · have := hp j i (by simpa using hj1) (by simpa using hi1) h1
    simp only [List.getElem_map, hi2, hj2] at this
    exact this.symm
theorem Lns.kp {n m B G : Nat} {w w' : World} {S : Nat → Prop} {rs : List LR} (h : Lns n m w B G rs) (hk : Kp S w w') (h0 : ¬ S G) (h1 : ∀ r ∈ rs, ¬ S r.gx ∧ ¬ S r.gb) : Lns n m w' B G rs := by
  obtain ⟨cur, hc, ht⟩ := h.block
  exact ⟨⟨cur, (hk.block _ h.lt h0).trans hc, ht⟩, fun r hr => ⟨(h.rows r hr).1.kp hk (h1 r hr).1, (h.rows r hr).2.kp hk (h1 r hr).2⟩, h.size, h.low, h.own, h.apart⟩
theorem Lns.nb {n m B G : Nat} {w w' : World} {rs : List LR} (h : Lns n m w B G rs) (hb : Below w.heap.size w w') : Lns n m w' B G rs :=
  h.kp (S := fun _ => False) (Kp.of_below hb) (fun h => h) (fun _ _ => ⟨fun h => h, fun h => h⟩)
theorem Lns.drew {n m B G : Nat} {w : World} {rs : List LR} (h : Lns n m w B G rs) : Lns n m w.drew B G rs := h.nb (nb_drew w)
/-- One line's rows change. -/
theorem Lns.write {n m B G : Nat} {w w' : World} {rs : List LR} (h : Lns n m w B G rs) {i : Nat} {r : LR} (hi : rs[i]? = some r) {x b : List Int} (hx : Row w' r.gx x) (hb : Row w' r.gb b) (lx : x.length = n) (lb : b.length = m)
    (hk : Kp (fun j => j = r.gx ∨ j = r.gb) w w') : Lns n m w' B G (rs.set i { r with x := x, b := b }) := by
  obtain ⟨cur, hc, ht⟩ := h.block
  have hr := List.mem_of_getElem? hi
  obtain ⟨hil, hie⟩ := List.getElem?_eq_some_iff.1 hi
  have ho := h.own r hr
  refine ⟨⟨cur, (hk.block _ h.lt (by rintro (h | h); exact ho.2.1 h.symm; exact ho.2.2 h.symm)).trans hc, ?_⟩, ?_, ?_, ⟨h.low.1, ?_⟩, ?_, ?_⟩
  · intro j s hj
    rw [List.getElem?_set] at hj
    by_cases hij : i = j
    · subst hij
      rw [if_pos rfl, if_pos hil] at hj
      cases hj
      exact ht i r hi
    · rw [if_neg hij] at hj
      exact ht j s hj
  · intro s hs
    obtain ⟨j, hj⟩ := List.mem_iff_getElem?.1 hs
    rw [List.getElem?_set] at hj
    by_cases hij : i = j
    · subst hij
      rw [if_pos rfl, if_pos hil] at hj
      cases hj
      exact ⟨hx, hb⟩
    · rw [if_neg hij] at hj
      have ha := h.apart_at hi hj hij
      have hs' := List.mem_of_getElem? hj
      exact ⟨(h.rows s hs').1.kp hk (by rintro (h | h); exact ha.1 h.symm; exact ha.2.2.1 h.symm), (h.rows s hs').2.kp hk (by rintro (h | h); exact ha.2.1 h.symm; exact ha.2.2.2 h.symm)⟩
  · intro s hs
    rcases List.mem_or_eq_of_mem_set hs with hs | rfl
    · exact h.size s hs
    · exact ⟨lx, lb⟩
  · intro s hs
    rcases List.mem_or_eq_of_mem_set hs with hs | rfl
    · exact h.low.2 s hs
    · exact h.low.2 r hr
  · intro s hs
    rcases List.mem_or_eq_of_mem_set hs with hs | rfl
    · exact h.own s hs
    · exact ho
  · have e : (rs.set i { r with x := x, b := b }).map LR.blk = rs.map LR.blk := by
      rw [List.map_set]
      show (rs.map LR.blk).set i r.blk = _
      rw [show r.blk = (rs.map LR.blk)[i]'(by simpa using hil) from by simp [hie], List.set_getElem_self]
    rw [e]
    exact h.apart

/-- Two lines change places. -/
def swp (rs : List LR) (i j : Nat) (r s : LR) : List LR := (rs.set i s).set j r
theorem swp_perm {rs : List LR} {i j : Nat} {r s : LR} (hi : rs[i]? = some r) (hj : rs[j]? = some s) : (swp rs i j r s).Perm rs := by
  obtain ⟨hi1, hi2⟩ := List.getElem?_eq_some_iff.1 hi
  obtain ⟨hj1, hj2⟩ := List.getElem?_eq_some_iff.1 hj
  subst hi2
  subst hj2
  exact List.set_set_perm hi1 hj1
theorem Lns.perm_facts {n m B G : Nat} {w w' : World} {rs rs' : List LR} (h : Lns n m w B G rs) (hp : rs'.Perm rs) (hk : Kp (· = G) w w')
    (hb : ∃ cur : Array Value, w'.heap[G]? = some (.cells cur 90 (0, 0)) ∧ ∀ i r, rs'[i]? = some r → cur[2 * i]? = some (r.xv n) ∧ cur[2 * i + 1]? = some (r.bv m)) : Lns n m w' B G rs' := by
  refine ⟨hb, fun r hr => ?_, fun r hr => h.size r (hp.mem_iff.1 hr), ⟨h.low.1, fun r hr => h.low.2 r (hp.mem_iff.1 hr)⟩, fun r hr => h.own r (hp.mem_iff.1 hr), ?_⟩
  · have hr' := hp.mem_iff.1 hr
    exact ⟨(h.rows r hr').1.kp hk (h.own r hr').2.1, (h.rows r hr').2.kp hk (h.own r hr').2.2⟩
  · exact ((hp.map LR.blk).pairwise_iff (fun h => Ap.symm h)).2 h.apart
theorem heap_set (w : World) {G : Nat} {cur : Array Value} {t : TypeId} (hc : w.heap[G]? = some (.cells cur t (0, 0))) (i : Nat) (v : Value) : (w.setCell ⟨G, i, none⟩ v).heap[G]? = some (.cells (cur.setIfInBounds i v) t (0, 0)) := by
  simp [World.setCell, Array.getElem?_modify, hc]
theorem Lns.swap {n m B G : Nat} {w : World} {rs : List LR} (h : Lns n m w B G rs) {i j : Nat} {r s : LR} (hi : rs[i]? = some r) (hj : rs[j]? = some s) :
    Lns n m ((((w.setCell ⟨G, 2 * i, none⟩ (s.xv n)).setCell ⟨G, 2 * i + 1, none⟩ (s.bv m)).setCell ⟨G, 2 * j, none⟩ (r.xv n)).setCell ⟨G, 2 * j + 1, none⟩ (r.bv m)) B G (swp rs i j r s) := by
  refine h.perm_facts (swp_perm hi hj) ((((((Kp.refl (· = G) w).set (p := ⟨G, 2 * i, none⟩) rfl _).set (p := ⟨G, 2 * i + 1, none⟩) rfl _).set (p := ⟨G, 2 * j, none⟩) rfl _).set (p := ⟨G, 2 * j + 1, none⟩) rfl _)) ?_
  obtain ⟨cur, hc, ht⟩ := h.block
  obtain ⟨hi1, hi2⟩ := List.getElem?_eq_some_iff.1 hi
  obtain ⟨hj1, hj2⟩ := List.getElem?_eq_some_iff.1 hj
  have lt : ∀ (a : Nat) (v : Value), cur[a]? = some v → a < cur.size := fun a v hv => (Array.getElem?_eq_some_iff.1 hv).1
  have li := lt _ _ (ht i r hi).2
  have lj := lt _ _ (ht j s hj).2
  refine ⟨_, heap_set _ (heap_set _ (heap_set _ (heap_set _ hc _ _) _ _) _ _) _ _, ?_⟩
  intro k q hk
  unfold swp at hk
  rw [List.getElem?_set, List.getElem?_set] at hk
  simp only [Array.getElem?_setIfInBounds, List.length_set, Array.size_setIfInBounds] at hk ⊢
  by_cases hkj : j = k
  · subst hkj
    rw [if_pos rfl, if_pos hj1] at hk
    cases hk
    constructor
    · rw [if_neg (by omega), if_pos rfl, if_pos (by omega)]
    · rw [if_pos rfl, if_pos (by omega)]
  · rw [if_neg hkj] at hk
    by_cases hki : i = k
    · subst hki
      rw [if_pos rfl, if_pos hi1] at hk
      cases hk
      constructor
      · rw [if_neg (by omega), if_neg (by omega), if_neg (by omega), if_pos rfl, if_pos (by omega)]
      · rw [if_neg (by omega), if_neg (by omega), if_pos rfl, if_pos (by omega)]
    · rw [if_neg hki] at hk
      constructor
      · rw [if_neg (by omega), if_neg (by omega), if_neg (by omega), if_neg (by omega)]
        exact (ht k q hk).1
      · rw [if_neg (by omega), if_neg (by omega), if_neg (by omega), if_neg (by omega)]
        exact (ht k q hk).2
theorem Lns.below_swap {n m B G : Nat} {w w' : World} {rs : List LR} (h : Lns n m w B G rs) (hk : Kp (· = G) w w') : Below B w w' :=
  hk.below (Nat.le_trans h.low.1 (Nat.le_of_lt h.lt)) (fun i hi => by have := h.low.1; omega)
theorem Lns.below_write {n m B G : Nat} {w w' : World} {rs : List LR} (h : Lns n m w B G rs) {r : LR} (hr : r ∈ rs) (hk : Kp (fun j => j = r.gx ∨ j = r.gb) w w') : Below B w w' :=
  hk.below (Nat.le_trans h.low.1 (Nat.le_of_lt h.lt)) (fun i hi => by have := h.low.2 r hr; omega)
theorem Below.of_nb {B : Nat} {w w' : World} (hB : B ≤ w.heap.size) (h : Below w.heap.size w w') : Below B w w' := h.mono hB
theorem Lns.base {n m B G : Nat} {w : World} {rs : List LR} (h : Lns n m w B G rs) : B ≤ w.heap.size := Nat.le_trans h.low.1 (Nat.le_of_lt h.lt)

/-- The line less a multiple of the top. -/
def LR.red (c : Nat) (top r : LR) : LR := { r with x := subL (Ln.fq (Ln.at_ c r.ln) (Ln.at_ c top.ln)) r.x top.x, b := subL (Ln.fq (Ln.at_ c r.ln) (Ln.at_ c top.ln)) r.b top.b }
theorem LR.red_ln (c : Nat) (top r : LR) : (r.red c top |>.ln) = (r.red c top).ln := rfl
theorem red_ln (c : Nat) (top r : LR) : (LR.red c top r).ln = Ln.lessq c top.ln r.ln := rfl
/-- The first j lines of R are reduced. -/
def part (c : Nat) (top : LR) (j : Nat) (R : List LR) : List LR := (R.take j).map (LR.red c top) ++ R.drop j
theorem part_zero (c : Nat) (top : LR) (R : List LR) : part c top 0 R = R := by simp [part]
theorem part_all (c : Nat) (top : LR) (R : List LR) : part c top R.length R = R.map (LR.red c top) := by simp [part]
theorem part_len (c : Nat) (top : LR) (j : Nat) (R : List LR) (hj : j ≤ R.length) : (part c top j R).length = R.length := by simp [part]; omega
theorem part_at (c : Nat) (top : LR) (j : Nat) (R : List LR) {r : LR} (hr : R[j]? = some r) : (part c top j R)[j]? = some r := by
  obtain ⟨hj, he⟩ := List.getElem?_eq_some_iff.1 hr
  unfold part
  rw [List.getElem?_append_right (by simp; omega), List.getElem?_drop]
  simp only [List.length_map, List.length_take]
  rw [show j + (j - min j R.length) = j by omega]
  exact hr
theorem part_step (c : Nat) (top : LR) (j : Nat) (R : List LR) {r : LR} (hr : R[j]? = some r) : (part c top j R).set j (LR.red c top r) = part c top (j + 1) R := by
  obtain ⟨hj, he⟩ := List.getElem?_eq_some_iff.1 hr
  unfold part
  rw [List.take_succ_eq_append_getElem hj, List.map_append, List.append_assoc, List.drop_eq_getElem_cons hj]
  have e5 : ∀ (A C : List LR) (z z' : LR), j = A.length → (A ++ z :: C).set j z' = A ++ ([z'] ++ C) := fun A C z z' hA => by
    subst hA
    simp
  rw [e5 _ _ _ _ (by simp; omega), he]
  rfl
theorem map_part (c : Nat) (top : LR) (j : Nat) (R : List LR) : (part c top j R).map LR.ln = (R.take j).map (fun r => Ln.lessq c top.ln r.ln) ++ (R.drop j).map LR.ln := by
  unfold part
  rw [List.map_append, List.map_map]
  rfl
end Go.Proofs.YtmfkpmepgbjmkaaGreatDoor
