/-
  COPIES: a matrix of ints of one's own, whose rows may be written. And the plain law of the statement HermiteKeeps.
-/
import Derived.Test.YtmfkpmepgbjmkaaGreatDoorSubl
set_option linter.unusedVariables false
set_option linter.unusedSimpArgs false
namespace Go.Proofs.YtmfkpmepgbjmkaaGreatDoor
open Go.RowKit

structure IR where
  g : Nat
  c : Nat
  x : List Int
def IR.v (r : IR) : Value := .slice (some ⟨r.g, 0, none⟩) r.x.length r.c
structure Cps (w : World) (B : Nat) (v : Value) (rs : List IR) : Prop where
  own : w.ownsRow B 35 1 v rs.length (rs.map IR.v)
  row : ∀ r ∈ rs, w.ownsRow B 3 1 r.v r.x.length (ints r.x)
  i64 : ∀ r ∈ rs, ∀ x ∈ r.x, I64 x
  dist : rs.Pairwise fun a b => a.g ≠ b.g
theorem Cps.start (w : World) (B : Nat) : Cps w B (.slice none 0 0) [] := ⟨World.ownsRow_nil _ _ _ _, by simp, by simp, List.Pairwise.nil⟩
theorem Cps.nb {w w' : World} {B : Nat} {v : Value} {rs : List IR} (h : Cps w B v rs) (hb : Below w.heap.size w w') : Cps w' B v rs :=
  ⟨own_nb2 h.own hb, fun r hr => own_nb2 (h.row r hr) hb, h.i64, h.dist⟩
theorem Cps.mat {w : World} {B : Nat} {v : Value} {rs : List IR} (h : Cps w B v rs) : MatAt w v (rs.map IR.x) := by
  refine MatO.at_ (B := B) ⟨rs.map IR.v, by simp, by rw [List.length_map]; exact h.own, fun i hi => ?_⟩
  rw [List.length_map] at hi
  have e1 : (rs.map IR.v).getD i (.slice none 0 0) = (rs[i]).v := by rw [List.getD_eq_getElem?_getD, List.getElem?_map, List.getElem?_eq_getElem hi]; rfl
  have e2 : (rs.map IR.x).getD i [] = (rs[i]).x := by rw [List.getD_eq_getElem?_getD, List.getElem?_map, List.getElem?_eq_getElem hi]; rfl
  rw [e1, e2]
  exact ⟨own_low (h.row _ (List.getElem_mem hi)) (Nat.zero_le _), h.i64 _ (List.getElem_mem hi)⟩
theorem own_int {w : World} {B : Nat} {r : IR} (h : w.ownsRow B 3 1 r.v r.x.length (ints r.x)) : B ≤ r.g ∧ ∃ cur, w.heap[r.g]? = some (.cells cur 3 (0, 0)) ∧ r.x.length ≤ r.c ∧ r.c ≤ maxLen ∧ cur.size = r.c * 1 ∧ cur.toList.take (r.x.length * 1) = ints r.x := by
  rcases h.2 with ⟨hv, _⟩ | ⟨g, cap, cur, hv, hB, hG, h1, h2, h3, h4⟩
  · cases hv
  · cases hv
    exact ⟨hB, cur, hG, h1, h2, h3, h4⟩
theorem Cps.low {w : World} {B : Nat} {v : Value} {rs : List IR} (h : Cps w B v rs) {r : IR} (hr : r ∈ rs) : B ≤ r.g := (own_int (h.row r hr)).1
theorem Cps.lt {w : World} {B : Nat} {v : Value} {rs : List IR} (h : Cps w B v rs) {r : IR} (hr : r ∈ rs) : r.g < w.heap.size := by
  obtain ⟨_, cur, hG, _⟩ := own_int (h.row r hr)
  exact (Array.getElem?_eq_some_iff.1 hG).1
theorem add_blk (g i : Nat) : ((⟨g, 0, none⟩ : Addr).add i) = ⟨g, i, none⟩ := by
  cases i with
  | zero => rfl
  | succ i => simp [Addr.add]
theorem Cps.head {w : World} {B : Nat} {v : Value} {rs : List IR} (h : Cps w B v rs) (h0 : 0 < rs.length) : ∃ G cap, v = .slice (some ⟨G, 0, none⟩) rs.length cap ∧ B ≤ G ∧ rs.length ≤ cap ∧ ∀ i (hi : i < rs.length), w.cell? ⟨G, i, none⟩ = some (rs[i]).v := by
  rcases h.own.2 with ⟨_, hn⟩ | ⟨G, cap, cur, hv, hB, hG, h1, h2, h3, h4⟩
  · omega
  · refine ⟨G, cap, hv, hB, h1, fun i hi => ?_⟩
    have := h.own.cells (g := G) (by rw [hv]; rfl) i (rs[i]).v (by rw [List.getElem?_map, List.getElem?_eq_getElem hi]; rfl)
    rw [show ((⟨G, 0, none⟩ : Addr).add i) = ⟨G, i, none⟩ from add_blk G i] at this
    exact this
theorem Cps.cell {w : World} {B : Nat} {v : Value} {rs : List IR} (h : Cps w B v rs) {r : IR} (hr : r ∈ rs) {j : Nat} (hj : j < r.x.length) : w.cell? ⟨r.g, j, none⟩ = some (.int .i64 (r.x.getD j 0)) := by
  have := (h.row r hr).cells (g := r.g) rfl j (.int .i64 (r.x.getD j 0)) (by unfold ints; rw [List.getElem?_map, List.getElem?_eq_getElem hj, List.getD_eq_getElem?_getD, List.getElem?_eq_getElem hj]; rfl)
  rw [show ((⟨r.g, 0, none⟩ : Addr).add j) = ⟨r.g, j, none⟩ from add_blk r.g j] at this
  exact this
theorem Cps.frozen {w : World} {B : Nat} {v : Value} {rs : List IR} (h : Cps w B v rs) {r : IR} (hr : r ∈ rs) (j : Nat) : w.frozen? ⟨r.g, j, none⟩ = false := by
  obtain ⟨_, cur, hG, _⟩ := own_int (h.row r hr)
  simp [World.frozen?, hG]
/-- One row more. -/
theorem Cps.push {w w' : World} {B : Nat} {v v' : Value} {rs : List IR} (h : Cps w B v rs) (r : IR) (hr : w.ownsRow B 3 1 r.v r.x.length (ints r.x)) (hi : ∀ x ∈ r.x, I64 x) (hne : ∀ q ∈ rs, q.g ≠ r.g)
    (hg : w.grownBy w' v.ownBlock) (ho : w'.ownsRow B 35 1 v' (rs.length + 1) (rs.map IR.v ++ [r.v])) : Cps w' B v' (rs ++ [r]) := by
  have hin : ∀ q ∈ rs ++ [r], q ∈ rs ∨ q = r := fun q hq => by
    rcases List.mem_append.1 hq with h | h
    · exact .inl h
    · exact .inr (by simpa using h)
  refine ⟨by rw [List.length_append, List.map_append]; exact ho, fun q hq => ?_, fun q hq => ?_, ?_⟩
  · rcases hin q hq with h1 | rfl
    · exact own_keep (h.row q h1) h.own (by decide) hg
    · exact own_keep hr h.own (by decide) hg
  · rcases hin q hq with h1 | rfl
    · exact h.i64 q h1
    · exact hi
  · rw [List.pairwise_append]
    exact ⟨h.dist, List.pairwise_singleton _ _, fun a ha b hb => by rw [List.mem_singleton.1 hb]; exact hne a ha⟩
theorem ints_set (xs : List Int) (j : Nat) (z : Int) : ints (xs.set j z) = (ints xs).set j (.int .i64 z) := by simp [ints, List.map_set]
/-- One element written. -/
theorem own_set {w : World} {B : Nat} {r : IR} (h : w.ownsRow B 3 1 r.v r.x.length (ints r.x)) (j : Nat) (z : Int) : (w.setCell ⟨r.g, j, none⟩ (.int .i64 z)).ownsRow B 3 1 ({ r with x := r.x.set j z } : IR).v (r.x.set j z).length (ints (r.x.set j z)) := by
  obtain ⟨hB, cur, hG, h1, h2, h3, h4⟩ := own_int h
  refine ⟨by simp [ints], .inr ⟨r.g, r.c, cur.setIfInBounds j (.int .i64 z), rfl, hB, heap_set w hG j _, by simpa using h1, h2, by simpa using h3, ?_⟩⟩
  rw [Array.toList_setIfInBounds, List.length_set, ints_set, ← h4, List.take_set]
theorem own_other {w : World} {B n size : Nat} {T : TypeId} {v : Value} {xs : List Value} (h : w.ownsRow B T size v n xs) {g : Nat} (hne : v.ownBlock ≠ some g) (j : Nat) (z : Value) : (w.setCell ⟨g, j, none⟩ z).ownsRow B T size v n xs := by
  refine ⟨h.1, ?_⟩
  rcases h.2 with h | ⟨G, cap, cur, hv, hB, hG, hr⟩
  · exact .inl h
  · refine .inr ⟨G, cap, cur, hv, hB, ?_, hr⟩
    rw [Below.heap_setCell w _ _ G (fun e => hne (by rw [hv]; show some G = some g; rw [e]))]
    exact hG
theorem Cps.vne {w : World} {B : Nat} {v : Value} {rs : List IR} (h : Cps w B v rs) {r : IR} (hr : r ∈ rs) : v.ownBlock ≠ some r.g := by
  intro e
  obtain ⟨_, cur, hG, _⟩ := own_int (h.row r hr)
  rcases h.own.2 with ⟨hv, _⟩ | ⟨G, cap, cur', hv, _, hG', _⟩
  · rw [hv] at e; cases e
  · rw [hv] at e
    injection e with e
    have e : G = r.g := e
    rw [e, hG] at hG'
    injection hG' with hG'
    injection hG' with _ hT _
    exact absurd hT (by decide)
theorem Cps.set {w : World} {B : Nat} {v : Value} {P Q : List IR} {r : IR} (h : Cps w B v (P ++ r :: Q)) (j : Nat) (z : Int) (hz : I64 z) : Cps (w.setCell ⟨r.g, j, none⟩ (.int .i64 z)) B v (P ++ { r with x := r.x.set j z } :: Q) := by
  have hr : r ∈ P ++ r :: Q := by simp
  have hd := h.dist
  rw [List.pairwise_append, List.pairwise_cons] at hd
  have hne : ∀ q, q ∈ P ∨ q ∈ Q → q.g ≠ r.g := by
    rintro q (hq | hq)
    · exact hd.2.2 q hq r (List.mem_cons_self ..)
    · exact fun e => hd.2.1.1 q hq e.symm
  have hin : ∀ q ∈ P ++ { r with x := r.x.set j z } :: Q, (q ∈ P ∨ q ∈ Q) ∨ q = { r with x := r.x.set j z } := by
    intro q hq
    rcases List.mem_append.1 hq with h1 | h1
    · exact .inl (.inl h1)
    · rcases List.mem_cons.1 h1 with h2 | h2
      · exact .inr h2
      · exact .inl (.inr h2)
  have hmem : ∀ q, q ∈ P ∨ q ∈ Q → q ∈ P ++ r :: Q := by
    rintro q (hq | hq)
    · exact List.mem_append_left _ hq
    · exact List.mem_append_right _ (List.mem_cons_of_mem _ hq)
  refine ⟨?_, fun q hq => ?_, fun q hq => ?_, ?_⟩
  · have e1 : (P ++ { r with x := r.x.set j z } :: Q).length = (P ++ r :: Q).length := by simp
    have e2 : (P ++ { r with x := r.x.set j z } :: Q).map IR.v = (P ++ r :: Q).map IR.v := by simp [IR.v]
    rw [e1, e2]
    exact own_other h.own (h.vne hr) j _
  · rcases hin q hq with h1 | rfl
    · exact own_other (h.row q (hmem q h1)) (fun e => hne q h1 (by injection e)) j _
    · exact own_set (h.row r hr) j z
  · rcases hin q hq with h1 | rfl
    · exact h.i64 q (hmem q h1)
    · intro y hy
      rcases List.mem_or_eq_of_mem_set hy with h2 | rfl
      · exact h.i64 r hr y h2
      · exact hz
  · rw [List.pairwise_append, List.pairwise_cons]
    exact ⟨hd.1, ⟨hd.2.1.1, hd.2.1.2⟩, fun a ha b hb => by
      rcases List.mem_cons.1 hb with rfl | hb
      · exact hd.2.2 a ha r (List.mem_cons_self ..)
      · exact hd.2.2 a ha b (List.mem_cons_of_mem _ hb)⟩

/-! ### What happens to the rows -/
def rotL (M : List (List Int)) (o k : Nat) : List (List Int) := (List.range k).map fun i => M.getD ((i + o) % M.length) []
def mixA (t : Int) (c : Nat) (x y : List Int) : List Int := (List.range x.length).map fun j => if j < c then x.getD j 0 + t * y.getD j 0 else x.getD j 0
def mixB (c : Nat) (y : List Int) : List Int := (List.range y.length).map fun j => if j < c then - y.getD j 0 else y.getD j 0
theorem range_getD {f : Nat → Int} {n j : Nat} (h : j < n) : ((List.range n).map f).getD j 0 = f j := by
  rw [List.getD_eq_getElem?_getD, List.getElem?_map, List.getElem?_range h]; rfl
theorem mixA_len (t : Int) (c : Nat) (x y : List Int) : (mixA t c x y).length = x.length := by simp [mixA]
theorem mixB_len (c : Nat) (y : List Int) : (mixB c y).length = y.length := by simp [mixB]
theorem mixA_at (t : Int) (c : Nat) (x y : List Int) {j : Nat} (h : j < x.length) : (mixA t c x y).getD j 0 = if j < c then x.getD j 0 + t * y.getD j 0 else x.getD j 0 := range_getD h
theorem mixB_at (c : Nat) (y : List Int) {j : Nat} (h : j < y.length) : (mixB c y).getD j 0 = if j < c then - y.getD j 0 else y.getD j 0 := range_getD h
theorem mixA_zero (t : Int) (x y : List Int) : mixA t 0 x y = x := list_ext_getD 0 (mixA_len ..) (fun j hj => by rw [mixA_len] at hj; rw [mixA_at _ _ _ _ hj, if_neg (by omega)])
theorem mixB_zero (y : List Int) : mixB 0 y = y := list_ext_getD 0 (mixB_len ..) (fun j hj => by rw [mixB_len] at hj; rw [mixB_at _ _ hj, if_neg (by omega)])
theorem set_getD (xs : List Int) (j i : Nat) (z : Int) (hi : i < xs.length) : (xs.set j z).getD i 0 = if i = j then z else xs.getD i 0 := by
  rw [List.getD_eq_getElem?_getD, List.getElem?_set, List.getD_eq_getElem?_getD]
  by_cases h : j = i
  · subst h; simp [hi]
  · rw [if_neg h, if_neg (fun e => h e.symm)]
theorem mixA_set (t : Int) (c : Nat) (x y : List Int) (hc : c < x.length) : (mixA t c x y).set c (x.getD c 0 + t * y.getD c 0) = mixA t (c + 1) x y := by
  refine list_ext_getD 0 (by rw [List.length_set, mixA_len, mixA_len]) fun j hj => ?_
  rw [List.length_set, mixA_len] at hj
  rw [set_getD _ _ _ _ (by rw [mixA_len]; exact hj), mixA_at _ _ _ _ hj, mixA_at _ _ _ _ hj]
  by_cases h : j = c
  · subst h; simp
  · rw [if_neg h]
    by_cases h2 : j < c
    · rw [if_pos h2, if_pos (by omega)]
    · rw [if_neg h2, if_neg (by omega)]
theorem mixB_set (c : Nat) (y : List Int) (hc : c < y.length) : (mixB c y).set c (- y.getD c 0) = mixB (c + 1) y := by
  refine list_ext_getD 0 (by rw [List.length_set, mixB_len, mixB_len]) fun j hj => ?_
  rw [List.length_set, mixB_len] at hj
  rw [set_getD _ _ _ _ (by rw [mixB_len]; exact hj), mixB_at _ _ hj, mixB_at _ _ hj]
  by_cases h : j = c
  · subst h; simp
  · rw [if_neg h]
    by_cases h2 : j < c
    · rw [if_pos h2, if_pos (by omega)]
    · rw [if_neg h2, if_neg (by omega)]
theorem xrow_mixA (t : Int) {x y : List Int} (h : y.length = x.length) : Ln.xrow (mixA t x.length x y) = fun j => Ln.xrow x j + t * Ln.xrow y j := by
  funext j
  by_cases hj : j < x.length
  · show (mixA t x.length x y).getD j 0 = _
    rw [mixA_at _ _ _ _ hj, if_pos hj]; rfl
  · rw [xrow_out (by rw [mixA_len]; omega), xrow_out (by omega : x.length ≤ j), xrow_out (by omega : y.length ≤ j)]; simp
theorem xrow_mixB {y : List Int} : Ln.xrow (mixB y.length y) = fun j => - Ln.xrow y j := by
  funext j
  by_cases hj : j < y.length
  · show (mixB y.length y).getD j 0 = _
    rw [mixB_at _ _ hj, if_pos hj]; rfl
  · rw [xrow_out (by rw [mixB_len]; omega), xrow_out (by omega : y.length ≤ j)]; simp
/-- The lattice of a rotation. -/
theorem rot_same (M : List (List Int)) (o : Nat) : Hnf.Same ((rotL M o M.length).map Ln.xrow) (M.map Ln.xrow) := by
  by_cases h0 : M.length = 0
  · have : M = [] := List.eq_nil_of_length_eq_zero h0
    subst this
    exact Hnf.Same.refl _
  refine Hnf.Same.of ?_ ?_
  · intro a ha
    obtain ⟨r, hr, rfl⟩ := List.mem_map.1 ha
    obtain ⟨i, _, rfl⟩ := List.mem_map.1 hr
    exact Hnf.InL.mem (List.mem_map_of_mem (getD_mem [] (Nat.mod_lt _ (by omega))))
  · intro a ha
    obtain ⟨r, hr, rfl⟩ := List.mem_map.1 ha
    obtain ⟨k, hk, rfl⟩ := List.getElem_of_mem hr
    refine Hnf.InL.mem (List.mem_map_of_mem (List.mem_map.2 ⟨(k + (M.length - o % M.length)) % M.length, List.mem_range.2 (Nat.mod_lt _ (by omega)), ?_⟩))
    have h1 := Nat.mod_lt o (show M.length > 0 by omega)
    have e : ((k + (M.length - o % M.length)) % M.length + o) % M.length = k := by
      rw [Nat.mod_add_mod]
      have h2 := Nat.div_add_mod o M.length
      have h3 : k + (M.length - o % M.length) + o = k + M.length * (1 + o / M.length) := by
        rw [Nat.mul_add, Nat.mul_one]; omega
      rw [h3, Nat.add_mul_mod_self_left, Nat.mod_eq_of_lt hk]
    show M.getD _ [] = _
    rw [e, List.getD_eq_getElem?_getD, List.getElem?_eq_getElem hk]; rfl
/-- The lattice of the rows that are added, turned and filled up. -/
theorem mix_same (t : Int) {x y : List Int} (h : y.length = x.length) (R : List (List Int)) (n : Nat) :
    Hnf.Same ((mixA t x.length x y :: mixB y.length y :: R ++ [List.replicate n 0]).map Ln.xrow) ((x :: y :: R).map Ln.xrow) := by
  have hz : ∀ z ∈ [Ln.xrow (List.replicate n 0)], ∀ j, z j = 0 := by
    intro z hz j
    rw [List.mem_singleton.1 hz]
    unfold Ln.xrow
    rw [List.getD_eq_getElem?_getD, List.getElem?_replicate]
    split <;> rfl
  have e1 : (mixA t x.length x y :: mixB y.length y :: R ++ [List.replicate n 0]).map Ln.xrow = ((mixA t x.length x y :: mixB y.length y :: R).map Ln.xrow) ++ [Ln.xrow (List.replicate n 0)] := by
    rw [List.map_append]; rfl
  rw [e1]
  refine (Hnf.Same.drop_zeros hz).trans ?_
  rw [List.map_cons, List.map_cons, List.map_cons, List.map_cons, xrow_mixA t h, xrow_mixB]
  have hX : ∀ (A : List Hnf.Row) (a b : Hnf.Row), a ∈ A → b ∈ A → Hnf.InL A (fun j => a j + t * b j) := fun A a b ha hb => (Hnf.InL.mem ha).add ((Hnf.InL.mem hb).smul t)
  refine Hnf.Same.of ?_ ?_
  · intro a ha
    rcases List.mem_cons.1 ha with rfl | ha
    · exact hX _ _ _ (by simp) (by simp)
    rcases List.mem_cons.1 ha with rfl | ha
    · exact ((Hnf.InL.mem (A := Ln.xrow x :: Ln.xrow y :: R.map Ln.xrow) (a := Ln.xrow y) (by simp)).smul (-1)).congr (fun j => by omega)
    · exact Hnf.InL.mem (by simp [ha])
  · intro a ha
    have hy : Hnf.InL ((fun j => Ln.xrow x j + t * Ln.xrow y j) :: (fun j => - Ln.xrow y j) :: R.map Ln.xrow) (Ln.xrow y) :=
      ((Hnf.InL.mem (a := fun j => - Ln.xrow y j) (by simp)).smul (-1)).congr (fun j => by omega)
    rcases List.mem_cons.1 ha with rfl | ha
    · refine ((Hnf.InL.mem (a := fun j => Ln.xrow x j + t * Ln.xrow y j) (by simp)).sub (hy.smul t)).congr (fun j => by omega)
    rcases List.mem_cons.1 ha with rfl | ha
    · exact hy
    · exact Hnf.InL.mem (by simp [ha])
end Go.Proofs.YtmfkpmepgbjmkaaGreatDoor
