/-
  WORDS FOR MEMORY: matrices and rows of ints, as they come in or are made.
  WALKS: hermite's lines.
  WALKS: hermite's small.
-/
import Derived.Test.YtmfkpmepgbjmkaaGreatDoorA8
import Derived.Deep.AppendLies
set_option linter.unusedVariables false
set_option linter.unusedSimpArgs false
namespace Go.Proofs.YtmfkpmepgbjmkaaGreatDoor
open Go.RowKit

/-- A slice of ints that reads as xs. -/
def RowAt (w : World) (v : Value) (xs : List Int) : Prop :=
  ∃ (p : Option Addr) (c : Nat), v = .slice p xs.length c ∧ xs.length ≤ c ∧ xs.length ≤ 9223372036854775807 ∧ (∀ x ∈ xs, I64 x) ∧ ∀ j, j < xs.length → ∃ b o, p = some ⟨b, o, none⟩ ∧ w.cell? ⟨b, o + j, none⟩ = some (.int .i64 (xs.getD j 0))
/-- A slice of such. -/
def MatAt (w : World) (v : Value) (M : List (List Int)) : Prop :=
  ∃ (p : Option Addr) (c : Nat), v = .slice p M.length c ∧ M.length ≤ c ∧ M.length ≤ 9223372036854775807 ∧ ∀ i, i < M.length → ∃ b o u, p = some ⟨b, o, none⟩ ∧ w.cell? ⟨b, o + i, none⟩ = some u ∧ RowAt w u (M.getD i [])
theorem RowAt.nb {w w' : World} {v : Value} {xs : List Int} (h : RowAt w v xs) (hb : Below w.heap.size w w') : RowAt w' v xs := by
  obtain ⟨p, c, hv, h1, h2, h3, h4⟩ := h
  refine ⟨p, c, hv, h1, h2, h3, fun j hj => ?_⟩
  obtain ⟨b, o, e, hc⟩ := h4 j hj
  exact ⟨b, o, e, cellB hb hc⟩
theorem MatAt.nb {w w' : World} {v : Value} {M : List (List Int)} (h : MatAt w v M) (hb : Below w.heap.size w w') : MatAt w' v M := by
  obtain ⟨p, c, hv, h1, h2, h4⟩ := h
  refine ⟨p, c, hv, h1, h2, fun i hi => ?_⟩
  obtain ⟨b, o, u, e, hc, hr⟩ := h4 i hi
  exact ⟨b, o, u, e, cellB hb hc, hr.nb hb⟩
/-- Opened where there is an element. -/
theorem RowAt.open_ {w : World} {v : Value} {xs : List Int} (h : RowAt w v xs) (h0 : 0 < xs.length) :
    ∃ b o c, v = .slice (some ⟨b, o, none⟩) xs.length c ∧ xs.length ≤ c ∧ ∀ j, j < xs.length → w.cell? ⟨b, o + j, none⟩ = some (.int .i64 (xs.getD j 0)) := by
  obtain ⟨p, c, hv, h1, h2, h3, h4⟩ := h
  obtain ⟨b, o, e, _⟩ := h4 0 h0
  subst e
  refine ⟨b, o, c, hv, h1, fun j hj => ?_⟩
  obtain ⟨b', o', e', hc⟩ := h4 j hj
  cases e'
  exact hc
theorem MatAt.open_ {w : World} {v : Value} {M : List (List Int)} (h : MatAt w v M) (h0 : 0 < M.length) :
    ∃ b o c, v = .slice (some ⟨b, o, none⟩) M.length c ∧ M.length ≤ c ∧ ∀ i, i < M.length → ∃ u, w.cell? ⟨b, o + i, none⟩ = some u ∧ RowAt w u (M.getD i []) := by
  obtain ⟨p, c, hv, h1, h2, h4⟩ := h
  obtain ⟨b, o, u, e, _⟩ := h4 0 h0
  subst e
  refine ⟨b, o, c, hv, h1, fun i hi => ?_⟩
  obtain ⟨b', o', u', e', hc, hr⟩ := h4 i hi
  cases e'
  exact ⟨u', hc, hr⟩
theorem RowAt.slice_ {w : World} {v : Value} {xs : List Int} (h : RowAt w v xs) : ∃ p c, v = .slice p xs.length c ∧ xs.length ≤ c ∧ xs.length ≤ 9223372036854775807 := by
  obtain ⟨p, c, hv, h1, h2, _⟩ := h
  exact ⟨p, c, hv, h1, h2⟩
theorem MatAt.slice_ {w : World} {v : Value} {M : List (List Int)} (h : MatAt w v M) : ∃ p c, v = .slice p M.length c ∧ M.length ≤ c ∧ M.length ≤ 9223372036854775807 := by
  obtain ⟨p, c, hv, h1, h2, _⟩ := h
  exact ⟨p, c, hv, h1, h2⟩
theorem RowAt.i64 {w : World} {v : Value} {xs : List Int} (h : RowAt w v xs) : ∀ x ∈ xs, I64 x := by
  obtain ⟨p, c, hv, h1, h2, h3, _⟩ := h
  exact h3
theorem I64.getD {xs : List Int} (h : ∀ x ∈ xs, I64 x) (j : Nat) : I64 (xs.getD j 0) := by
  rw [List.getD_eq_getElem?_getD]
  rcases Nat.lt_or_ge j xs.length with hj | hj
  · rw [List.getElem?_eq_getElem hj]; exact h _ (List.getElem_mem hj)
  · rw [List.getElem?_eq_none hj]; exact ⟨by decide, by decide⟩
theorem MatAt.row {w : World} {v : Value} {M : List (List Int)} (h : MatAt w v M) {i : Nat} (hi : i < M.length) : ∃ u, RowAt w u (M.getD i []) := by
  obtain ⟨p, c, hv, h1, h2, h4⟩ := h
  obtain ⟨b, o, u, e, hc, hr⟩ := h4 i hi
  exact ⟨u, hr⟩
theorem getD_mem {α : Type} {l : List α} {i : Nat} (d : α) (hi : i < l.length) : l.getD i d ∈ l := by
  rw [List.getD_eq_getElem?_getD, List.getElem?_eq_getElem hi]; exact List.getElem_mem hi

theorem Tryz.infoI : (Tryz.prog.info? 3).map (fun i => (i.zero, i.size, i.bytes)) = some (some (.int .i64 0), 1, 8) := by kernel_rfl
theorem Tryz.infoR : (Tryz.prog.info? 35).map (fun i => (i.zero, i.size, i.bytes)) = some (some (.slice none 0 0), 1, 24) := by kernel_rfl
theorem Tryz.infoL : (Tryz.prog.info? 90).map (fun i => (i.zero, i.size, i.bytes)) = some (some (.agg #[.slice none 0 0, .slice none 0 0]), 2, 48) := by kernel_rfl

/-- The unit row: place i of m. -/
def unitL (m i : Nat) : List Int := (List.replicate m 0).set i 1
/-- The lines of a matrix. -/
def linesOf (M : List (List Int)) : List Ln.Ln := M.zipIdx.map fun p => (p.1, unitL M.length p.2)
end Go.Proofs.YtmfkpmepgbjmkaaGreatDoor

namespace Go.Proofs.YtmfkpmepgbjmkaaGreatDoor
open Go.RowKit

def lcells (n m : Nat) (rs : List LR) : List Value := rs.flatMap fun r => [r.xv n, r.bv m]
theorem lcells_len (n m : Nat) (rs : List LR) : (lcells n m rs).length = rs.length * 2 := by
  induction rs with
  | nil => rfl
  | cons r rs ih => show (r.xv n :: r.bv m :: lcells n m rs).length = _; rw [List.length_cons, List.length_cons, ih, List.length_cons]; omega
theorem lcells_at (n m : Nat) : ∀ (rs : List LR) (i : Nat) (r : LR), rs[i]? = some r → (lcells n m rs)[2 * i]? = some (r.xv n) ∧ (lcells n m rs)[2 * i + 1]? = some (r.bv m) := by
  intro rs
  induction rs with
  | nil => intro i r h; cases h
  | cons q rs ih =>
    intro i r h
    cases i with
    | zero => cases h; exact ⟨rfl, rfl⟩
    | succ i =>
      have := ih i r h
      show (q.xv n :: q.bv m :: lcells n m rs)[2 * (i + 1)]? = _ ∧ (q.xv n :: q.bv m :: lcells n m rs)[2 * (i + 1) + 1]? = _
      rw [show 2 * (i + 1) = 2 * i + 1 + 1 by omega, List.getElem?_cons_succ, List.getElem?_cons_succ, List.getElem?_cons_succ, List.getElem?_cons_succ]
      exact this
/-- The lines made so far. -/
structure LnsO (n m : Nat) (w : World) (B : Nat) (v : Value) (rs : List LR) : Prop where
  own : w.ownsRow B 90 2 v rs.length (lcells n m rs)
  rows : ∀ r ∈ rs, Row w r.gx r.x ∧ Row w r.gb r.b
  size : ∀ r ∈ rs, r.x.length = n ∧ r.b.length = m
  low : ∀ r ∈ rs, B ≤ r.gx ∧ B ≤ r.gb
  ownb : ∀ r ∈ rs, r.gx ≠ r.gb
  apart : (rs.map LR.blk).Pairwise Ap
theorem LnsO.start (n m : Nat) (w : World) (B : Nat) : LnsO n m w B (.slice none 0 0) [] :=
  ⟨World.ownsRow_nil _ _ _ _, by simp, by simp, by simp, by simp, List.Pairwise.nil⟩
theorem own_nb2 {base n size : Nat} {T : TypeId} {w w1 : World} {v : Value} {xs : List Value} (h : w.ownsRow base T size v n xs) (hb : Below w.heap.size w w1) : w1.ownsRow base T size v n xs := by
  refine ⟨h.1, ?_⟩
  rcases h.2 with h | ⟨g, cap, cur, hv, hB, hg, h1, h2, h3, h4⟩
  · exact .inl h
  · exact .inr ⟨g, cap, cur, hv, hB, (hb.block g (Array.getElem?_eq_some_iff.1 hg).1).trans hg, h1, h2, h3, h4⟩
theorem LnsO.nb {n m B : Nat} {w w' : World} {v : Value} {rs : List LR} (h : LnsO n m w B v rs) (hb : Below w.heap.size w w') : LnsO n m w' B v rs :=
  ⟨own_nb2 h.own hb, fun r hr => ⟨(h.rows r hr).1.nb hb, (h.rows r hr).2.nb hb⟩, h.size, h.low, h.ownb, h.apart⟩
/-- A row's block is not the slice's own. -/
theorem row_ne {n m B : Nat} {w : World} {v : Value} {rs : List LR} (h : LnsO n m w B v rs) {g : Nat} {xs : List Int} (hr : Row w g xs) : v.ownBlock ≠ some g := by
  intro e
  obtain ⟨cur, hc, _⟩ := hr
  rcases h.own.2 with ⟨hv, _⟩ | ⟨G, cap, cur', hv, _, hG, _⟩
  · rw [hv] at e; cases e
  · rw [hv] at e
    injection e with e
    subst e
    rw [hG] at hc
    injection hc with hc
    injection hc with _ hc _
    exact absurd hc (by decide)
theorem row_grown {w w' : World} {row : Option Nat} {g : Nat} {xs : List Int} (h : Row w g xs) (hg : w.grownBy w' row) (hne : row ≠ some g) : Row w' g xs :=
  h.of_block (hg.block g h.lt (fun e => hne e.symm))
/-- One line more. -/
theorem LnsO.push {n m B : Nat} {w w' : World} {v v' : Value} {rs : List LR} (h : LnsO n m w B v rs) (r : LR) (hx : Row w r.gx r.x) (hb : Row w r.gb r.b) (lx : r.x.length = n) (lb : r.b.length = m) (low : B ≤ r.gx ∧ B ≤ r.gb) (hne : r.gx ≠ r.gb)
    (hap : ∀ q ∈ rs, Ap q.blk r.blk) (hown : w'.ownsRow B 90 2 v' (rs.length + 1) (lcells n m rs ++ [r.xv n, r.bv m])) (hg : w.grownBy w' v.ownBlock) : LnsO n m w' B v' (rs ++ [r]) := by
  have hin : ∀ q ∈ rs ++ [r], q ∈ rs ∨ q = r := fun q hq => by
    rcases List.mem_append.1 hq with hq | hq
    · exact .inl hq
    · exact .inr (List.mem_singleton.1 hq)
  refine ⟨?_, ?_, ?_, ?_, ?_, ?_⟩
  · have e : lcells n m (rs ++ [r]) = lcells n m rs ++ [r.xv n, r.bv m] := by simp [lcells]
    rw [e, List.length_append]
    exact hown
  · intro q hq
    rcases hin q hq with hq | rfl
    · exact ⟨row_grown (h.rows q hq).1 hg (row_ne h (h.rows q hq).1), row_grown (h.rows q hq).2 hg (row_ne h (h.rows q hq).2)⟩
    · exact ⟨row_grown hx hg (row_ne h hx), row_grown hb hg (row_ne h hb)⟩
  · intro q hq
    rcases hin q hq with hq | rfl
    · exact h.size q hq
    · exact ⟨lx, lb⟩
  · intro q hq
    rcases hin q hq with hq | rfl
    · exact h.low q hq
    · exact low
  · intro q hq
    rcases hin q hq with hq | rfl
    · exact h.ownb q hq
    · exact hne
  · rw [List.map_append, List.pairwise_append]
    refine ⟨h.apart, List.pairwise_singleton _ _, ?_⟩
    intro p hp q hq
    obtain ⟨a, ha, rfl⟩ := List.mem_map.1 hp
    have : q = r.blk := by simpa using hq
    rw [this]
    exact hap a ha
theorem LnsO.done {n m B : Nat} {w : World} {v : Value} {rs : List LR} (h : LnsO n m w B v rs) (h0 : 0 < rs.length) : ∃ G cap, v = .slice (some ⟨G, 0, none⟩) rs.length cap ∧ rs.length ≤ cap ∧ Lns n m w B G rs := by
  rcases h.own.2 with ⟨_, hn⟩ | ⟨G, cap, cur, hv, hB, hG, h1, h2, h3, h4⟩
  · omega
  · refine ⟨G, cap, hv, h1, ⟨⟨cur, hG, fun i r hi => ?_⟩, h.rows, h.size, ⟨hB, h.low⟩, fun r hr => ⟨h.ownb r hr, ?_, ?_⟩, h.apart⟩⟩
    · have hil := (List.getElem?_eq_some_iff.1 hi).1
      have ht := lcells_at n m rs i r hi
      rw [← h4, List.getElem?_take_of_lt (by omega), List.getElem?_take_of_lt (by omega), Array.getElem?_toList, Array.getElem?_toList] at ht
      exact ht
    · intro e
      have := row_ne h (h.rows r hr).1
      rw [hv] at this
      exact this (by show some G = some r.gx; rw [e])
    · intro e
      have := row_ne h (h.rows r hr).2
      rw [hv] at this
      exact this (by show some G = some r.gb; rw [e])
/-- A row that is being made. -/
theorem own_row {w : World} {B g n c : Nat} {xs : List Int} (h : w.ownsRow B 38 1 (.slice (some ⟨g, 0, none⟩) n c) n (strs xs)) : Row w g xs ∧ B ≤ g := by
  have hl := h.1
  rcases h.2 with ⟨hv, _⟩ | ⟨g', cap, cur, hv, hB, hG, h1, h2, h3, h4⟩
  · cases hv
  · cases hv
    refine ⟨⟨cur, hG, ?_⟩, hB⟩
    rw [← h4, show xs.length = n * 1 from by rw [← hl]; simp [strs]]

theorem alloc_size (w : World) (o : Obj) : (w.alloc o).heap.size = w.heap.size + 1 := by simp [World.alloc, -World.alloc_eq]
theorem rep_facts {W : World} {g m i : Nat} (hrw1 : Row W g (List.replicate m 0)) (him : i < m) : (∀ o : Obj, (W.alloc o).cell? ⟨g, i, none⟩ = some (.string (tx ((List.replicate m 0).getD i 0)))) ∧ ∀ o : Obj, (W.alloc o).frozen? ⟨g, i, none⟩ = false :=
  ⟨fun o => cellB (nb_alloc W o) (hrw1.cell (by simpa using him)), fun o => (hrw1.nb (nb_alloc W o)).frozen i⟩
theorem row_size {w w1 : World} {o : Obj} {xs : List Int} (h : Row w1 (w.alloc o).heap.size xs) : Row w1 (w.heap.size + 1) xs := by rw [alloc_size] at h; exact h
theorem lb_grown {w w2 w3 : World} {lb n : Nat} {T : TypeId} {ob o : Obj} {vx : Value} {xs : List Value} (h1 : w.heap[lb]? = some ob) (hown : w.ownsRow (lb + 1) T 1 vx n xs) (hb : Below w.heap.size w w2) (hg : (w2.alloc o).grownBy w3 vx.ownBlock) : w3.heap[lb]? = some ob := by
  have hl := (Array.getElem?_eq_some_iff.1 h1).1
  rw [hg.block lb (by rw [alloc_size]; have := hb.size; omega) (fun e => by have := (hown.lt lb e.symm).1; omega), (nb_trans hb (nb_alloc w2 o)).block lb hl]
  exact h1
theorem lb_cell {w : World} {lb : Nat} {a b : Value} {T : TypeId} (h : w.heap[lb]? = some (.cells #[a, b] T (0, 0))) : w.cell? ⟨lb, 0, none⟩ = some a ∧ w.cell? ⟨lb, 1, none⟩ = some b ∧ ∀ j, w.frozen? ⟨lb, j, none⟩ = false := by
  refine ⟨?_, ?_, fun j => ?_⟩
  · rw [cell_of_row w lb 0 _ _ _ h]; rfl
  · rw [cell_of_row w lb 1 _ _ _ h]; rfl
  · simp [World.frozen?, h]
theorem own_kp {base n size : Nat} {T : TypeId} {w w1 : World} {v : Value} {xs : List Value} {S : Nat → Prop} (h : w.ownsRow base T size v n xs) (hk : Kp S w w1) (hS : ∀ i, S i → i < base) : w1.ownsRow base T size v n xs := by
  refine ⟨h.1, ?_⟩
  rcases h.2 with h | ⟨g, cap, cur, hv, hB, hg, h1, h2, h3, h4⟩
  · exact .inl h
  · exact .inr ⟨g, cap, cur, hv, hB, (hk.block g (Array.getElem?_eq_some_iff.1 hg).1 (fun hs => by have := hS g hs; omega)).trans hg, h1, h2, h3, h4⟩
theorem grown_below {B base n : Nat} {T : TypeId} {w w' : World} {v : Value} {xs : List Value} (hg : w.grownBy w' v.ownBlock) (hB : B ≤ w.heap.size) (hv : ∀ k, v.ownBlock = some k → B ≤ k) : Below B w w' :=
  ⟨hg.os, hg.tape, hg.output, hg.size, fun i hi => hg.block i (by omega) (fun e => by have := hv i e.symm; omega)⟩
theorem inner_step {wq wr w2 w3 : World} {lb gb j n : Nat} {vx v' by_ : Value} {o : Obj} {xs ys : List Value} {zs : List Int} (hq1 : wr.heap[lb]? = some (.cells #[vx, by_] 90 (0, 0)))
    (hown : wr.ownsRow (lb + 1) 38 1 vx j xs) (hrow : Row wr gb zs) (hbl : Below wq.heap.size wq wr) (hbb : Below wr.heap.size wr w2) (hg : (w2.alloc o).grownBy w3 vx.ownBlock) (hown3 : w3.ownsRow (lb + 1) 38 1 v' n ys)
    (hgb : gb < lb) (hlb : wq.heap.size < gb) :
    (w3.setCell ⟨lb, 0, none⟩ v').heap[lb]? = some (.cells #[v', by_] 90 (0, 0)) ∧ (w3.setCell ⟨lb, 0, none⟩ v').ownsRow (lb + 1) 38 1 v' n ys ∧ Row (w3.setCell ⟨lb, 0, none⟩ v') gb zs ∧ Below wq.heap.size wq (w3.setCell ⟨lb, 0, none⟩ v') := by
  have h3 := lb_grown hq1 hown hbb hg
  have hk : Kp (· = lb) w3 (w3.setCell ⟨lb, 0, none⟩ v') := (Kp.refl (· = lb) w3).set (p := ⟨lb, 0, none⟩) rfl v'
  have hbo := nb_trans hbb (nb_alloc w2 o)
  have hsz : wq.heap.size ≤ (w2.alloc o).heap.size := Nat.le_trans hbl.size hbo.size
  refine ⟨by rw [heap_set w3 h3 0 v']; rfl, own_kp hown3 hk (fun i hi => by omega), ?_, ?_⟩
  · exact (row_grown (hrow.nb hbo) hg (fun e => by have := (hown.lt gb e).1; omega)).kp hk (by omega)
  · have b1 : Below wq.heap.size wq (w2.alloc o) := hbl.trans (hbo.mono hbl.size)
    have b2 : Below wq.heap.size (w2.alloc o) w3 := grown_below (base := 0) (n := 0) (T := 0) (xs := []) hg hsz (fun k hk => by have := (hown.lt k hk).1; omega)
    exact (b1.trans b2).trans (hk.below (Nat.le_trans hsz b2.size) (fun i hi => by omega))
theorem two_new (w : World) (a b : Value) (t : TypeId) : ∀ j u, [a, b][j]? = some u → (w.alloc (.cells #[a, b] t)).cell? ((⟨w.heap.size, 0, none⟩ : Addr).add j) = some u := by
  intro j u hj
  match j, hj with
  | 0, hj => cases hj; exact alloc1_0 _ _ _ _
  | 1, hj => cases hj; exact alloc1_1 _ _ _ _
theorem tx_zero : tx 0 = ⟨#[48]⟩ := bytes_ext (by rw [tx_list]; exact itoa_zero)
theorem tx_one : tx 1 = ⟨#[49]⟩ := bytes_ext (by rw [tx_list]; exact itoa_one)
theorem linesOf_len (M : List (List Int)) : (linesOf M).length = M.length := by simp [linesOf]
theorem linesOf_take (M : List (List Int)) {i : Nat} (hi : i < M.length) : (linesOf M).take (i + 1) = (linesOf M).take i ++ [(M.getD i [], unitL M.length i)] := by
  rw [List.take_succ_eq_append_getElem (by rw [linesOf_len]; exact hi)]
  congr 2
  simp [linesOf, List.getD_eq_getElem?_getD, List.getElem?_eq_getElem hi]
theorem strs_take {xs : List Int} {j : Nat} (hj : j < xs.length) : strs (xs.take j) ++ [Value.string (tx (xs.getD j 0))] = strs (xs.take (j + 1)) := by
  rw [List.take_succ_eq_append_getElem hj]
  unfold strs
  rw [List.map_append, List.getD_eq_getElem?_getD, List.getElem?_eq_getElem hj]
  rfl

set_option maxRecDepth 100000 in
set_option maxHeartbeats 1600000 in
theorem lines_any (w : World) (v : Value) (M : List (List Int)) (n m : Nat) (hm : M.length = m) (hM : MatAt w v M) (hn : ∀ r ∈ M, r.length = n) (hn0 : 1 ≤ n) (hn1 : n ≤ 1000) (hm0 : 1 ≤ m) (hm1 : m ≤ 1000) (hG : GOk w) :
    Calls Tryz.prog 46 #[v] w fun e w' => ∃ G cap rs, e = .returned (.slice (some ⟨G, 0, none⟩) m cap) ∧ m ≤ cap ∧ rs.map LR.ln = linesOf M ∧ Lns n m w' w.heap.size G rs ∧ Below w.heap.size w w' ∧ GOk w' := by
  obtain ⟨i0, hi0, hz0, hz1, hz2⟩ := info_parts Tryz.infoL
  obtain ⟨i1, hi1, hy0, hy1, hy2⟩ := info_parts Tryz.infoS
  obtain ⟨b, o, c, rfl, hc, hcell⟩ := hM.open_ (by omega)
  have HC := Lib.hid hcell
  have HM := Lib.hid hm
  have HN := Lib.hid hn
  rw [hm] at hc ⊢
  clear hcell hM hn hm
  go_enter Tryz.func46, Tryz.ntmps46
  go_wp2_with fail
  go_loopw [3, 11] (fun s3 s11 wr => ∃ (i : Nat) (rs : List LR), i ≤ m ∧ s11 = .int .i64 i ∧ Hid (rs.length = i ∧ rs.map LR.ln = (linesOf M).take i ∧ LnsO n m wr w.heap.size s3 rs) ∧ Below w.heap.size w wr) (fun _ s11 _ => m - (intOf s11).toNat)
  case atStart => exact ⟨0, [], Nat.zero_le _, rfl, ⟨rfl, rfl, LnsO.start _ _ _ _⟩, nb_refl _⟩
  case round =>
    obtain ⟨i, rs, hi, rfl, hst, hbl⟩ := hrel
    obtain ⟨vo, hvo⟩ : ∃ x, x = u3 := ⟨_, rfl⟩
    subst hvo
    by_cases him : i < m
    · obtain ⟨u, hu, hr⟩ := HC.out i (by rw [HM.out]; exact him)
      have hxn : (M.getD i []).length = n := HN.out _ (getD_mem _ (by rw [HM.out]; exact him))
      obtain ⟨b', o', c', rfl, hc', hrow⟩ := (hr.nb hbl).open_ (by omega)
      have HXI := Lib.hid (hr.i64)
      obtain ⟨xr, hxr⟩ : ∃ xr, xr = M.getD i [] := ⟨_, rfl⟩
      have hu' := cellB hbl hu
      rw [← hxr] at hxn hrow hc' HXI hu'
      rw [hxn] at hu' hc' hrow
      have HXR := Lib.hid (And.intro hxr hxn)
      have HROW := Lib.hid hrow
      have RP := Lib.hid (fun (W : World) (g : Nat) (hg : W.cell? ⟨g, 0, none⟩ = some (.string (tx 0))) => repeat_any W g 1 m 0 hm1 hm0 hg)
      rw [tx_zero] at RP
      have GR := Lib.hid (hG.below hbl)
      clear hxr hxn hrow hr hu
      go_wp2_with (go_at_call 80; go_loud (refine (RP.out _ wr.heap.size (cell_one_new _ _ _ 0 _ rfl)).mono ?_; rintro e w1 ⟨rfl, hrw1, hb1⟩; have hrw := row_size hrw1; have q12 := rep_facts hrw him; have q1 := q12.1; have q2 := q12.2))
      obtain ⟨by_, hby⟩ : ∃ x, x = Value.slice (some ⟨wr.heap.size + 1, 0, none⟩) m m := ⟨_, rfl⟩
      obtain ⟨gb, hgb⟩ : ∃ x, x = wr.heap.size + 1 := ⟨_, rfl⟩
      obtain ⟨lb, hlb⟩ : ∃ x, x = w1.heap.size := ⟨_, rfl⟩
      have hbw1 : Below wr.heap.size wr w1 := nb_trans (nb_alloc _ _) hb1
      rw [← hgb] at hrw hby
      have hlt := hrw.lt
      obtain ⟨W, hW⟩ : ∃ W, W = (w1.alloc (.cells #[.slice none 0 0, by_] 90)).setCell ⟨gb, i, none⟩ (.string ⟨#[49]⟩) := ⟨_, rfl⟩
      have f1 : Row W gb (unitL m i) := by
        rw [hW, ← tx_one]
        exact (hrw.nb (nb_alloc _ _)).set i 1
      have f2 : W.heap[lb]? = some (.cells #[.slice none 0 0, by_] 90 (0, 0)) := by
        rw [hW]
        have e := Below.heap_setCell (w1.alloc (.cells #[.slice none 0 0, by_] 90)) ⟨gb, i, none⟩ (.string ⟨#[49]⟩) lb (by show lb ≠ gb; omega)
        rw [e, hlb]
        simp [World.alloc, -World.alloc_eq]
      have f3 : Below wr.heap.size wr W := by
        rw [hW]
        exact (hbw1.trans ((nb_alloc w1 _).mono hbw1.size)).setCell (by show wr.heap.size ≤ gb; omega) _
      have f4 : lb < W.heap.size := (Array.getElem?_eq_some_iff.1 f2).1
      have f5 : gb < lb := by rw [hlb]; exact hlt
      have f6 : wr.heap.size < gb := by omega
      have HF := Lib.hid (And.intro f1 (And.intro f2 f3))
      rw [← hlb, ← hgb, ← hby, ← hW]
      have HBY := Lib.hid (And.intro hby hgb)
      clear hW hlb hby hgb hrw hrw1 hb1 hbw1 q1 q2 q12 f1 f2 f3 f4 hlt RP
      obtain ⟨wq, hwq⟩ : ∃ x, x = wr := ⟨_, rfl⟩
      subst hwq
      go_loopw [27] (fun s27 wx => ∃ (j : Nat) (vx : Value), j ≤ n ∧ s27 = .int .i64 j ∧ Hid (wx.heap[lb]? = some (.cells #[vx, by_] 90 (0, 0)) ∧ wx.ownsRow (lb + 1) 38 1 vx j (strs (xr.take j)) ∧ Row wx gb (unitL m i) ∧ Below wq.heap.size wq wx)) (fun s27 _ => n - (intOf s27).toNat)
      case atStart => exact ⟨0, .slice none 0 0, Nat.zero_le _, rfl, HF.out.2.1, World.ownsRow_nil _ _ _ _, HF.out.1, HF.out.2.2⟩
      case round =>
        clear HF
        obtain ⟨j, vx, hj, rfl, hq⟩ := hrel
        have hlbs : lb < wr.heap.size := (Array.getElem?_eq_some_iff.1 hq.out.1).1
        have k1 : wr.cell? ⟨lb, 0, none⟩ = some vx := by rw [cell_of_row wr lb 0 _ _ _ hq.out.1]; rfl
        have k2 : wr.cell? ⟨lb, 1, none⟩ = some by_ := by rw [cell_of_row wr lb 1 _ _ _ hq.out.1]; rfl
        by_cases hjn : j < n
        · have kc := cellB hq.out.2.2.2 (HROW.out j hjn)
          obtain ⟨x, hx⟩ : ∃ x, x = xr.getD j 0 := ⟨_, rfl⟩
          rw [← hx] at kc
          have hxi : I64 x := hx ▸ I64.getD HXI.out j
          have OF := Lib.hid (fun W (hg : GOk W) => of_any x hxi W hg)
          have hgr := GR.out.below hq.out.2.2.2
          have HX := Lib.hid hx
          clear hx
          have hown := Lib.hid hq.out.2.1
          have hlbq := Lib.hid hq.out.1
          go_wp2_with fail
          go_region_law (first
            | (refine step_append_lies _ rfl (.tmp 32) (.tmp 35) 88 rfl (lb + 1) 38 i1 (.string ⟨#[]⟩) 1 16 Tryz.underlying88 hi1 hy0 hy1 hy2 rfl (by decide) vx j _ (by simp [Act.eval, Act.put]) ((own_nb2 hown.out hbb).alloc _) ⟨w2.heap.size, 0, none⟩ 1 1 [.string (tx x)] (by simp [Act.eval, Act.put]) rfl (cell_one_new _ _ _) (by intro u hu; simp at hu; subst hu; rfl) (by omega) (by unfold maxLen; omega) (by omega) (by have := hbb.size; rw [alloc_size]; omega) _ rfl ?_; intro g cap w3 hown3 hgrow3 hat3 hlt3; have h3 := lb_grown hlbq.out hown.out hbb hgrow3; have k5 := (lb_cell h3).1; have k6 := (lb_cell h3).2.2 0)
            | (go_simp; go_at_call 54; refine (OF.out _ (by first | assumption | exact GOk.drew (by assumption))).mono ?_; rintro e w2 ⟨rfl, hb2⟩; have hbb : Below wr.heap.size wr w2 := (by first | exact hb2 | exact nb_trans (nb_drew _) hb2); have k3 : w2.cell? ⟨lb, 0, none⟩ = some vx := cellB hbb k1; have k4 := fun (o : Obj) => cellB (nb_alloc w2 o) k3))
          all_goals
            obtain ⟨e1, e2, e3, e4⟩ := inner_step hlbq.out hown.out hq.out.2.2.1 hq.out.2.2.2 hbb hgrow3 hown3 f5 f6
            rw [HX.out, strs_take (by have := HXR.out.2; omega)] at e2
            have HE := Lib.hid (And.intro e1 (And.intro e2 (And.intro e3 e4)))
            clear e1 e2 e3 e4 hgrow3 hown3 h3 k5 k6 k3 k4 hbb hb2
            go_wp2_with fail
            go_roundw
            case rel => exact ⟨j + 1, _, by omega, by go_num, HE⟩
            case measure => (simp [intOf]) <;> omega
        · obtain rfl : j = n := by omega
          obtain ⟨gx, cx, rfl, hgx, hgxl⟩ := hq.out.2.1.form (by omega)
          obtain ⟨rfl, hgbe⟩ := HBY.out
          have hxr := own_row (by have := hq.out.2.1; rwa [List.take_of_length_le (by have := HXR.out.2; omega)] at this)
          have hrsl := hst.out.1
          have hO := hst.out.2.2.nb hq.out.2.2.2
          have hlts : ∀ q ∈ rs, q.gx < wq.heap.size ∧ q.gb < wq.heap.size := fun q hq => ⟨(hst.out.2.2.rows q hq).1.lt, (hst.out.2.2.rows q hq).2.lt⟩
          have HPU : Hid (∀ (w4 : World) (v' : Value), w4.ownsRow w.heap.size 90 2 v' (i + 1) (lcells j m rs ++ [.slice (some ⟨gx, 0, none⟩) j cx, .slice (some ⟨gb, 0, none⟩) m m]) → (wr.alloc (.cells #[.slice (some ⟨gx, 0, none⟩) j cx, .slice (some ⟨gb, 0, none⟩) m m] 90)).grownBy w4 vo.ownBlock →
              LnsO j m w4 w.heap.size v' (rs ++ [⟨gx, cx, gb, m, xr, unitL m i⟩])) := Lib.hid (by
            intro w4 v' ho hg
            refine (hO.nb (nb_alloc wr _)).push ⟨gx, cx, gb, m, xr, unitL m i⟩ (hxr.1.nb (nb_alloc _ _)) (hq.out.2.2.1.nb (nb_alloc _ _)) HXR.out.2 (by simp [unitL]) ⟨?_, ?_⟩ ?_ (fun q hq => ?_) (by rw [hrsl]; exact ho) hg
            · show w.heap.size ≤ gx
              have := hbl.size; omega
            · show w.heap.size ≤ gb
              have := hbl.size; omega
            · show gx ≠ gb
              omega
            · have := hlts q hq
              refine ⟨?_, ?_, ?_, ?_⟩
              · show q.gx ≠ gx; omega
              · show q.gx ≠ gb; omega
              · show q.gb ≠ gx; omega
              · show q.gb ≠ gb; omega)
          have HO := Lib.hid hO.own
          have HBB := Lib.hid (hbl.trans (hq.out.2.2.2.mono hbl.size))
          have HLN : Hid (∀ r : LR, r.ln = (xr, unitL m i) → (rs ++ [r]).map LR.ln = (linesOf M).take (i + 1)) := Lib.hid (by
            intro r hr
            rw [linesOf_take M (by rw [HM.out]; exact him), List.map_append, hst.out.2.1, HM.out, ← HXR.out.1]
            show _ ++ [r.ln] = _
            rw [hr])
          have HRS := Lib.hid hrsl
          have hszw : w.heap.size ≤ wr.heap.size := HBB.out.size
          clear hxr hrsl hO hlts hst hq hbl HROW HXI GR hgx hgbe HBY
          go_wp2_with (at_builtin; go_loud (refine wpList_append_own _ rfl _ _ 84 rfl w.heap.size 90 i0 (.agg #[.slice none 0 0, .slice none 0 0]) 2 48 Tryz.underlying84 hi0 hz0 hz1 hz2 rfl (by decide) vo i (lcells j m rs) rfl (by have := HO.out.alloc (.cells #[.slice (some ⟨gx, 0, none⟩) j cx, .slice (some ⟨gb, 0, none⟩) m m] 90); rw [HRS.out] at this; exact this) ⟨wr.heap.size, 0, none⟩ 1 1 [.slice (some ⟨gx, 0, none⟩) j cx, .slice (some ⟨gb, 0, none⟩) m m] rfl rfl (two_new _ _ _ _) (by intro u hu; simp at hu; rcases hu with rfl | rfl <;> rfl) (by unfold maxLen; omega) (by omega) (by rw [alloc_size]; omega) ?_; intro v' w4 hown4 hgrow4 hnil4))
          have HW4 := Lib.hid (HPU.out w4 v' hown4 hgrow4)
          have HB4 : Below w.heap.size w w4 := (HBB.out.trans ((nb_alloc wr _).mono hszw)).trans (grown_below (base := 0) (n := 0) (T := 0) (xs := []) hgrow4 (by rw [alloc_size]; omega) (fun k hk => (HO.out.lt k hk).1))
          clear hown4 hgrow4 hnil4 HPU HO
          go_wp2_with fail
          go_roundw
          case rel => exact ⟨i + 1, rs ++ [⟨gx, cx, gb, m, xr, unitL m i⟩], by omega, by go_num, ⟨by rw [List.length_append, HRS.out]; rfl, HLN.out _ rfl, HW4.out⟩, HB4⟩
          case measure => (simp [intOf]) <;> omega
    · obtain rfl : i = m := by omega
      obtain ⟨h1, h2, h3⟩ := hst.out
      obtain ⟨G, cap, rfl, hcap, hl⟩ := h3.done (by omega)
      rw [List.take_of_length_le (by rw [linesOf_len, HM.out]; exact Nat.le_refl _)] at h2
      rw [h1] at hcap ⊢
      have HL := Lib.hid (And.intro h2 hl)
      clear h1 h2 h3 hst hl
      go_wp2_with fail
      go_ret
      exact ⟨G, cap, rs, rfl, hcap, HL.out.1, HL.out.2, hbl, hG.below hbl⟩
end Go.Proofs.YtmfkpmepgbjmkaaGreatDoor

namespace Go.Proofs.YtmfkpmepgbjmkaaGreatDoor
open Go.RowKit

/-- A slice of integers' texts that reads as xs. -/
def TxAt (w : World) (v : Value) (xs : List Int) : Prop :=
  ∃ (p : Option Addr) (c : Nat), v = .slice p xs.length c ∧ ∀ j, j < xs.length → ∃ b o, p = some ⟨b, o, none⟩ ∧ w.cell? ⟨b, o + j, none⟩ = some (.string (tx (xs.getD j 0)))
theorem TxAt.nb {w w' : World} {v : Value} {xs : List Int} (h : TxAt w v xs) (hb : Below w.heap.size w w') : TxAt w' v xs := by
  obtain ⟨p, c, hv, h4⟩ := h
  refine ⟨p, c, hv, fun j hj => ?_⟩
  obtain ⟨b, o, e, hc⟩ := h4 j hj
  exact ⟨b, o, e, cellB hb hc⟩
theorem Row.tx {w : World} {g n c : Nat} {xs : List Int} (h : Row w g xs) (hn : xs.length = n) : TxAt w (.slice (some ⟨g, 0, none⟩) n c) xs := by
  subst hn
  exact ⟨_, c, rfl, fun j hj => ⟨g, 0, rfl, by rw [Nat.zero_add]; exact h.cell hj⟩⟩
def ints (xs : List Int) : List Value := xs.map fun x => .int .i64 x
theorem ints_take {xs : List Int} {j : Nat} (hj : j < xs.length) : ints (xs.take j) ++ [Value.int .i64 (xs.getD j 0)] = ints (xs.take (j + 1)) := by
  rw [List.take_succ_eq_append_getElem hj]
  unfold ints
  rw [List.map_append, List.getD_eq_getElem?_getD, List.getElem?_eq_getElem hj]
  rfl
/-- A row that is made. -/
theorem own_rowAt {w : World} {B n : Nat} {v : Value} {xs : List Int} (h : w.ownsRow B 3 1 v n (ints xs)) (h64 : ∀ x ∈ xs, I64 x) : RowAt w v xs := by
  have hl : n = xs.length := by have := h.1; simp [ints] at this; omega
  subst hl
  rcases h.2 with ⟨hv, h0⟩ | ⟨g, cap, cur, hv, hB, hG, h1, h2, h3, h4⟩
  · have : xs = [] := List.eq_nil_of_length_eq_zero h0
    subst this
    exact ⟨none, 0, hv, Nat.le_refl _, by simp, h64, fun j hj => by simp at hj⟩
  · refine ⟨some ⟨g, 0, none⟩, cap, hv, h1, by unfold maxLen at h2; omega, h64, fun j hj => ⟨g, 0, rfl, ?_⟩⟩
    rw [Nat.zero_add, cell_of_row w g j _ _ _ hG]
    have h5 : (cur.toList.take (xs.length * 1))[j]? = (ints xs)[j]? := by rw [h4]
    rw [List.getElem?_take_of_lt (by omega), Array.getElem?_toList] at h5
    rw [h5]
    simp [ints, List.getD_eq_getElem?_getD, List.getElem?_eq_getElem hj]

/-- Every element within the limit. -/
def Lim (xs : List Int) : Prop := ∀ x ∈ xs, -1000000000 ≤ x ∧ x ≤ 1000000000
set_option maxRecDepth 100000 in
set_option maxHeartbeats 1600000 in
theorem small_any (w : World) (v : Value) (xs : List Int) (h : TxAt w v xs) (hz : ∀ x ∈ xs, Za x) (hn : xs.length ≤ 1000) (hG : GOk w) :
    Calls Tryz.prog 49 #[v] w fun e w' => ((Lim xs ∧ ∃ u, e = .returned (.tuple #[u, .int .i64 0]) ∧ RowAt w' u xs ∧ w'.ownsRow w.heap.size 3 1 u xs.length (ints xs)) ∨ (¬ Lim xs ∧ e = .returned (.tuple #[.slice none 0 0, .int .i64 4]))) ∧ Below w.heap.size w w' := by
  obtain ⟨i0, hi0, hz0, hz1, hz2⟩ := info_parts Tryz.infoI
  obtain ⟨p, c, rfl, hcell⟩ := h
  obtain ⟨n, hnl⟩ : ∃ n, n = xs.length := ⟨_, rfl⟩
  have HN := Lib.hid hnl.symm
  rw [← hnl] at hn hcell ⊢
  have HC := Lib.hid hcell
  have HZ := Lib.hid hz
  clear hcell hz hnl
  go_enter Tryz.func49, Tryz.ntmps49
  go_wp2_with (at_make; refine wpList_make_own _ rfl _ _ 35 rfl w.heap.size 3 i0 (.int .i64 0) 1 Tryz.underlying35 hi0 hz0 hz1 .i64 .i64 _ n rfl rfl rfl (by rw [hz2]; omega) (by unfold maxLen; omega) (Nat.le_refl _) ?_; intro w1 hown hgrow)
  have hb1 : Below w.heap.size w w1 := ⟨hgrow.os, hgrow.tape, hgrow.output, hgrow.size, fun i hi => hgrow.block i hi (by simp)⟩
  have HO0 := Lib.hid hown
  clear hown hgrow
  go_loopw [4, 14] (fun s4 s14 wr => ∃ i : Nat, i ≤ n ∧ s14 = .int .i64 i ∧ Hid (wr.ownsRow w.heap.size 3 1 s4 i (ints (xs.take i)) ∧ Lim (xs.take i)) ∧ Below w.heap.size w wr) (fun _ s14 _ => n - (intOf s14).toNat)
  case atStart => exact ⟨0, Nat.zero_le _, rfl, ⟨HO0.out, fun x hx => by simp at hx⟩, hb1⟩
  case round =>
    clear HO0 hb1
    obtain ⟨i, hi, rfl, hst, hb⟩ := hrel
    obtain ⟨vo, hvo⟩ : ∃ x, x = u4 := ⟨_, rfl⟩
    subst hvo
    by_cases hin : i < n
    · obtain ⟨b, o, rfl, hcl⟩ := HC.out i hin
      have hcl' := cellB hb hcl
      obtain ⟨x, hx⟩ : ∃ x, x = xs.getD i 0 := ⟨_, rfl⟩
      rw [← hx] at hcl'
      have hxm : x ∈ xs := by rw [hx]; exact getD_mem 0 (by rw [HN.out]; exact hin)
      have hxz := HZ.out x hxm
      have HX := Lib.hid (And.intro hx hxm)
      have hgr := hG.below hb
      clear hx hxm hcl
      by_cases h64 : I64 x
      · have SM := Lib.hid (fun W => small_ok x h64 hxz.sz W)
        clear hxz
        by_cases h1 : 1000000000 < x
        · go_wp2_with (go_at_call 85; refine (SM.out _).mono ?_; rintro e w2 ⟨rfl, hb2⟩)
          go_ret2
          exact ⟨.inr ⟨fun hl => by have := hl x HX.out.2; omega, rfl⟩, hb.trans (hb2.mono hb.size)⟩
        · by_cases h2 : x < -1000000000
          · go_wp2_with (go_at_call 85; refine (SM.out _).mono ?_; rintro e w2 ⟨rfl, hb2⟩)
            go_ret2
            exact ⟨.inr ⟨fun hl => by have := hl x HX.out.2; omega, rfl⟩, hb.trans (hb2.mono hb.size)⟩
          · have HXL : Hid (-1000000000 ≤ x ∧ x ≤ 1000000000) := Lib.hid ⟨by omega, by omega⟩
            go_wp2_with (first
              | (go_at_call 85; refine (SM.out _).mono ?_; rintro e w2 ⟨rfl, hb2⟩)
              | (at_builtin; refine wpList_append_own _ rfl _ _ 35 rfl w.heap.size 3 i0 (.int .i64 0) 1 8 Tryz.underlying35 hi0 hz0 hz1 hz2 rfl (by decide) vo i (ints (xs.take i)) rfl ((own_nb2 hst.out.1 hb2).alloc _) ⟨w2.heap.size, 0, none⟩ 1 1 [.int .i64 x] rfl rfl (cell_one_new _ _ _) (by intro u hu; simp at hu; subst hu; rfl) (by unfold maxLen; omega) (by omega) (by have := (hb.trans (hb2.mono hb.size)).size; rw [alloc_size]; omega) ?_; intro v' w3 hown3 hgrow3 hnil3))
            have HB3 : Below w.heap.size w w3 := ((hb.trans (hb2.mono hb.size)).trans ((nb_alloc w2 _).mono (hb.trans (hb2.mono hb.size)).size)).trans (grown_below (base := 0) (n := 0) (T := 0) (xs := []) hgrow3 (by rw [alloc_size]; have := (hb.trans (hb2.mono hb.size)).size; omega) (fun k hk => (hst.out.1.lt k hk).1))
            have HO3 : Hid (w3.ownsRow w.heap.size 3 1 v' (i + 1) (ints (xs.take (i + 1))) ∧ Lim (xs.take (i + 1))) := Lib.hid ⟨by
              rw [HX.out.1, ints_take (by rw [HN.out]; exact hin)] at hown3; exact hown3, fun y hy => by
              rw [List.take_succ_eq_append_getElem (by rw [HN.out]; exact hin)] at hy
              rcases List.mem_append.1 hy with hy | hy
              · exact hst.out.2 y hy
              · have e : y = x := by rw [List.mem_singleton.1 hy, HX.out.1, List.getD_eq_getElem?_getD, List.getElem?_eq_getElem (by rw [HN.out]; exact hin)]; rfl
                rw [e]; exact HXL.out⟩
            clear hown3 hgrow3 hnil3 hb2
            go_wp2_with fail
            go_roundw
            case rel => exact ⟨i + 1, by omega, by go_num, HO3, HB3⟩
            case measure => (simp [intOf]) <;> omega
      · have SM := Lib.hid (fun W (hg : GOk W) => small_far x h64 hxz.sz W hg)
        clear hxz
        go_wp2_with (go_at_call 85; refine (SM.out _ hgr).mono ?_; rintro e w2 ⟨rfl, hb2⟩)
        go_ret2
        exact ⟨.inr ⟨fun hl => by have := hl x HX.out.2; unfold I64 at h64; omega, rfl⟩, hb.trans (hb2.mono hb.size)⟩
    · obtain rfl : i = n := by omega
      have HE := Lib.hid hst.out
      go_wp2_with fail
      go_ret2
      have e : xs.take i = xs := List.take_of_length_le (by rw [HN.out]; exact Nat.le_refl _)
      have h2 := HE.out
      rw [e] at h2
      exact ⟨.inl ⟨h2.2, vo, rfl, own_rowAt h2.1 (fun x hx => by have := h2.2 x hx; unfold I64; omega), h2.1⟩, hb⟩
end Go.Proofs.YtmfkpmepgbjmkaaGreatDoor
