/-
  WALKS: hermite's reduce.
  WALKS: hermite's reduce.
-/
import Derived.Test.YtmfkpmepgbjmkaaGreatDoorG3
set_option linter.unusedVariables false
set_option linter.unusedSimpArgs false
namespace Go.Proofs.YtmfkpmepgbjmkaaGreatDoor
open Go.RowKit

/-! ### IndexFunc and ContainsFunc over texts -/
set_option maxRecDepth 100000 in
theorem indexTx_any (w : World) (f : FuncId) (v : Value) (xs : List Int) (P : Nat → Bool) (h : TxAt w v xs) (hn : xs.length ≤ 1000) (hcall : ∀ x W, Sem.run Tryz.prog (callFunc f #[x]) W = .ok (.enter f #[x]) W)
    (hf : ∀ i W, i < xs.length → Below w.heap.size w W → Calls Tryz.prog f #[.string (tx (xs.getD i 0))] W fun e w' => e = .returned (.bool (P i)) ∧ Below W.heap.size W w') :
    Calls Tryz.prog 116 #[v, .func (.func f) #[] #[]] w fun e w' => ∃ r, firstAt P xs.length r ∧ e = .returned (.int .i64 r) ∧ Below w.heap.size w w' := by
  obtain ⟨p, c, rfl, hcell⟩ := h
  obtain ⟨n, hnl⟩ : ∃ n, n = xs.length := ⟨_, rfl⟩
  rw [← hnl] at hn hcell hf ⊢
  have HC := Lib.hid hcell
  have HF := Lib.hid hf
  clear hcell hf hnl
  go_enter Tryz.func116, Tryz.ntmps116
  go_wp2_with fail
  go_loopw [8] (fun s8 wr => ∃ i : Nat, i ≤ n ∧ s8 = .int .i64 i ∧ Hid (∀ j, j < i → P j = false) ∧ Below w.heap.size w wr) (fun s8 _ => n - (intOf s8).toNat)
  case atStart => exact ⟨0, Nat.zero_le _, rfl, (fun j hj => by omega), nb_refl _⟩
  case round =>
    obtain ⟨i, hi, rfl, hp, hb⟩ := hrel
    by_cases hin : i < n
    · obtain ⟨b, o, rfl, hcl⟩ := HC.out i hin
      have hcl' := cellB hb hcl
      have FI := Lib.hid (HF.out i wr hin hb)
      obtain ⟨x, hx⟩ : ∃ x, x = tx (xs.getD i 0) := ⟨_, rfl⟩
      rw [← hx] at hcl' FI
      clear hx hcl
      cases hpi : P i with
      | true =>
        rw [hpi] at FI
        have HPI := Lib.hid hpi
        clear hpi
        go_wp2_with (with_reducible refine FI.out.mono ?_; rintro e w1 ⟨rfl, hb1⟩)
        go_ret
        exact ⟨i, .inr ⟨by omega, by omega, by rw [Int.toNat_natCast]; exact HPI.out, by rw [Int.toNat_natCast]; exact hp.out⟩, rfl, hb.trans (hb1.mono hb.size)⟩
      | false =>
        rw [hpi] at FI
        have HPI := Lib.hid hpi
        clear hpi
        have HP' : Hid (∀ j, j < i + 1 → P j = false) := Lib.hid (fun j hj => by
          rcases Nat.lt_or_eq_of_le (Nat.le_of_lt_succ hj) with h | rfl
          · exact hp.out j h
          · exact HPI.out)
        go_wp2_with (with_reducible refine FI.out.mono ?_; rintro e w1 ⟨rfl, hb1⟩)
        go_roundw
        case rel => exact ⟨i + 1, by omega, by go_num, HP', hb.trans (hb1.mono hb.size)⟩
        case measure => (simp [intOf]) <;> omega
    · obtain rfl : i = n := by omega
      go_wp2_with fail
      go_ret
      exact ⟨-1, .inl ⟨rfl, hp.out⟩, rfl, hb⟩
theorem call_nz1 (x : Value) (W : World) : Sem.run Tryz.prog (callFunc 117 #[x]) W = .ok (.enter 117 #[x]) W := by simp [go_sem, Tryz.func117]
theorem call_nz2 (x : Value) (W : World) : Sem.run Tryz.prog (callFunc 101 #[x]) W = .ok (.enter 101 #[x]) W := by simp [go_sem, Tryz.func101]
theorem nz1_any (x : Int) (w : World) : Calls Tryz.prog 117 #[.string (tx x)] w fun e w' => e = .returned (.bool (decide (x ≠ 0))) ∧ Below w.heap.size w w' := by
  have HE : Hid ((!((tx x).toList == [48])) = decide (x ≠ 0)) := Lib.hid (by rw [tx_eq_zero]; by_cases h : x = 0 <;> simp [h])
  obtain ⟨X, hX⟩ : ∃ X, X = tx x := ⟨_, rfl⟩
  rw [← hX] at HE ⊢
  clear hX
  go_enter Tryz.func117, Tryz.ntmps117
  go_wp2_with fail
  go_ret
  exact ⟨by rw [← HE.out]; rfl, nb_refl _⟩
theorem nz2_any (x : Int) (w : World) : Calls Tryz.prog 101 #[.string (tx x)] w fun e w' => e = .returned (.bool (decide (x ≠ 0))) ∧ Below w.heap.size w w' := by
  have HE : Hid ((!((tx x).toList == [48])) = decide (x ≠ 0)) := Lib.hid (by rw [tx_eq_zero]; by_cases h : x = 0 <;> simp [h])
  obtain ⟨X, hX⟩ : ∃ X, X = tx x := ⟨_, rfl⟩
  rw [← hX] at HE ⊢
  clear hX
  go_enter Tryz.func101, Tryz.ntmps101
  go_wp2_with fail
  go_ret
  exact ⟨by rw [← HE.out]; rfl, nb_refl _⟩
/-- The first element that is not 0. -/
theorem firstTx_any (w : World) (v : Value) (xs : List Int) (h : TxAt w v xs) (hn : xs.length ≤ 1000) :
    Calls Tryz.prog 116 #[v, .func (.func 117) #[] #[]] w fun e w' => e = .returned (.int .i64 (pv xs)) ∧ Below w.heap.size w w' := by
  refine (indexTx_any w 117 v xs (fun i => decide (xs.getD i 0 ≠ 0)) h hn call_nz1 (fun i W _ _ => nz1_any _ W)).mono ?_
  rintro e w' ⟨r, hr, he, hb⟩
  exact ⟨by rw [he, firstAt_unique hr (pv_first xs)], hb⟩
set_option maxRecDepth 100000 in
/-- Is an element not 0? -/
theorem anyTx_any (w : World) (v : Value) (xs : List Int) (h : TxAt w v xs) (hn : xs.length ≤ 1000) :
    Calls Tryz.prog 100 #[v, .func (.func 101) #[] #[]] w fun e w' => e = .returned (.bool (decide (0 ≤ pv xs))) ∧ Below w.heap.size w w' := by
  have IX := Lib.hid (indexTx_any w 101 v xs (fun i => decide (xs.getD i 0 ≠ 0)) h hn call_nz2 (fun i W _ _ => nz2_any _ W))
  have HF : Hid (∀ r, firstAt (fun i => decide (xs.getD i 0 ≠ 0)) xs.length r → r = pv xs) := Lib.hid (fun r hr => firstAt_unique hr (pv_first xs))
  clear h
  obtain ⟨z, hz⟩ : ∃ z, z = pv xs := ⟨_, rfl⟩
  rw [← hz] at HF ⊢
  clear hz
  go_enter Tryz.func100, Tryz.ntmps100
  go_wp2_with (go_at_call 116; refine IX.out.mono ?_; rintro e w1 ⟨r, hr, rfl, hb1⟩)
  go_ret
  exact ⟨by rw [← HF.out r hr]; first | rfl | (congr 1; simp), hb1⟩

set_option maxRecDepth 100000 in
set_option maxHeartbeats 1600000 in
theorem less_nil (w : World) (B gx hx c1 c3 n D E : Nat) (k : Int) (xs ys : List Int) (vb : Value) (hxl : xs.length = n) (hyl : ys.length = n) (hG : GOk w) (hB : Gb B) (bx : B ≤ gx)
    (rx : Row w gx xs) (ry : Row w hx ys) (n1 : gx ≠ hx) (hn : n ≤ 1000)
    (fx : Lt10s D xs) (fy : Lt10s E ys) (fk : Lt10 D k) (hD0 : 1 ≤ D) (hE0 : 1 ≤ E) (hD : D ≤ 4000000000) (hE : E ≤ 1000) :
    Calls Tryz.prog 84 #[.agg #[.slice (some ⟨gx, 0, none⟩) n c1, vb], .string (tx k), .agg #[.slice (some ⟨hx, 0, none⟩) n c3, .slice none 0 0]] w
      fun e w' => e = .returned (.tuple #[]) ∧ Row w' gx (subL k xs ys) ∧ Kp (fun i => i = gx) w w' := by
  have HX := Lib.hid hxl
  have HY := Lib.hid hyl
  have l1 := rx.lt
  have l2 := ry.lt
  by_cases hk : k = 0
  · subst hk
    have e1 := subL_zero (hxl.trans hyl.symm)
    rw [e1]
    have hz : ((tx 0).toList == [48]) = true := by rw [tx_eq_zero]; rfl
    clear hxl hyl
    go_enter Tryz.func84, Tryz.ntmps84
    go_wp2
    (try simp only [Exit.inBlock, Exit.then]); refine bodyPost_ret (results_none rfl _ _ _) rfl ?_
    have hb := allocs3 w (.cells #[.slice (some ⟨gx, 0, none⟩) n c1, vb] 90) (.cells #[.string (tx 0)] 38) (.cells #[.slice (some ⟨hx, 0, none⟩) n c3, .slice none 0 0] 90)
    exact ⟨rfl, rx.nb hb, Kp.of_below hb⟩
  · have hz : ((tx k).toList == [48]) = false := by rw [tx_eq_zero, decide_eq_false hk]
    have LT := Lib.hid fun (W : World) (c1 c2 : Nat) (kb : Nat) (h1 : GOk W) (h2 : ∀ W', Kp (· = gx) W W' → GOk W') (h3 : Row W gx xs) (h4 : Row W hx ys) (h5 : W.cell? ⟨kb, 0, none⟩ = some (.string (tx k))) (h6 : kb ≠ gx) =>
      ltake_any W gx hx kb c1 c2 n D E D k xs ys hxl hyl h1 h2 h3 h4 n1 h5 h6 hn fx fy fk hD0 hE0 hD0 (by omega) (by omega)
    have LN := Lib.hid fun W v kb => ltake_nil W v kb
    clear hxl hyl fx fy fk hk
    go_enter Tryz.func84, Tryz.ntmps84
    go_wp2_with (first
      | (go_at_call 125; have _t := hk1; refine (LN.out _ _ _).mono ?_; rintro e w2 ⟨rfl, rfl⟩)
      | (go_at_call 125; refine (LT.out _ _ _ _ (hG.below (allocs3 w _ _ _)) (fun W' hW' => (hG.below (allocs3 w _ _ _)).keep hB (by intro i hi; omega) hW') (rx.nb (allocs3 w _ _ _)) (ry.nb (allocs3 w _ _ _)) (allocs3_1 _ _ _ _ _) (by omega)).mono ?_; rintro e w1 ⟨rfl, hr1, hk1⟩; have hc1 := hk1.cell (allocs3_0 _ _ _ _ _ _) (by show ¬ w.heap.size = gx; omega); have hc2 := hk1.cell (allocs3_2 _ _ _ _ _ _) (by show ¬ w.heap.size + 1 + 1 = gx; omega); have hkk := (Kp.of_below (S := (· = gx)) (allocs3 w _ _ _)).trans hk1))
    all_goals
      go_end0
      exact ⟨rfl, hr1, hkk⟩
end Go.Proofs.YtmfkpmepgbjmkaaGreatDoor

namespace Go.Proofs.YtmfkpmepgbjmkaaGreatDoor
open Go.RowKit

def redStep (s : List Int × List Int) (r : List Int) : List Int × List Int :=
  (subL (Ln.fq (s.1.getD (pv r).toNat 0) (r.getD (pv r).toNat 0)) s.1 r, s.2 ++ [Ln.fq (s.1.getD (pv r).toNat 0) (r.getD (pv r).toNat 0)])
/-- What is left of a row, and the multiples. -/
def redL (F : List (List Int)) (x : List Int) : List Int × List Int := F.foldl redStep (x, [])
theorem redL_snoc (F : List (List Int)) (r x : List Int) : redL (F ++ [r]) x = redStep (redL F x) r := by simp [redL]
theorem redL_len {n : Nat} (F : List (List Int)) (x : List Int) (hF : ∀ r ∈ F, r.length = n) (hx : x.length = n) : (redL F x).1.length = n ∧ (redL F x).2.length = F.length := by
  have key : ∀ (F : List (List Int)) (s : List Int × List Int), (∀ r ∈ F, r.length = n) → s.1.length = n → (F.foldl redStep s).1.length = n ∧ (F.foldl redStep s).2.length = s.2.length + F.length := by
    intro F
    induction F with
    | nil => intro s _ h; exact ⟨h, rfl⟩
    | cons r F ih =>
      intro s hF hs
      have h1 : (redStep s r).1.length = n := by
        unfold redStep
        rw [subL_len (by rw [hs, hF r (List.mem_cons_self ..)])]; exact hs
      have h2 := ih (redStep s r) (fun q hq => hF q (List.mem_cons_of_mem _ hq)) h1
      refine ⟨h2.1, ?_⟩
      rw [List.foldl_cons, h2.2]
      simp [redStep]
      omega
  have := key F (x, []) hF hx
  exact ⟨this.1, by have h := this.2; simp only [List.length_nil, Nat.zero_add] at h; exact h⟩
theorem lim_lt10 {xs : List Int} (h : Lim xs) : Lt10s 10 xs := fun x hx => by
  have := h x hx
  show x.natAbs < 10 ^ 10
  omega
theorem Lt10.mono {D E : Nat} {x : Int} (h : Lt10 D x) (hE : D ≤ E) : Lt10 E x := Nat.lt_of_lt_of_le h (Nat.pow_le_pow_right (by decide) hE)
theorem subL_lt10 {D : Nat} {k : Int} {a b : List Int} (ha : Lt10s D a) (hb : Lt10s 10 b) (hk : Lt10 D k) : Lt10s (D + 11) (subL k a b) := by
  intro z hz
  unfold subL at hz
  obtain ⟨i, hi, rfl⟩ := List.mem_iff_getElem.1 hz
  have hab : i < a.length ∧ i < b.length := by rw [List.length_zipWith] at hi; omega
  have := hab.1
  have := hab.2
  rw [List.getElem_zipWith]
  have h1 : Lt10 D a[i] := ha _ (List.getElem_mem _)
  have h2 : Lt10 (D + 10) (k * b[i]) := hk.mul (hb _ (List.getElem_mem _))
  unfold Lt10 at *
  have h3 : (a[i] - k * b[i]).natAbs ≤ a[i].natAbs + (k * b[i]).natAbs := Int.natAbs_sub_le _ _
  have h4 : 10 ^ D ≤ 10 ^ (D + 10) := Nat.pow_le_pow_right (by decide) (by omega)
  have h5 : 10 ^ (D + 11) = 10 * 10 ^ (D + 10) := by rw [show D + 11 = (D + 10) + 1 by omega, Nat.pow_succ, Nat.mul_comm]
  omega
/-- Digits behind i rows. -/
theorem redL_bd (F : List (List Int)) (x : List Int) (hF : ∀ r ∈ F, Lim r ∧ 0 ≤ pv r) (hx : Lim x) : Lt10s (10 + 11 * F.length) (redL F x).1 ∧ Lt10s (10 + 11 * F.length) (redL F x).2 := by
  have key : ∀ (F : List (List Int)) (s : List Int × List Int) (D : Nat), (∀ r ∈ F, Lim r ∧ 0 ≤ pv r) → Lt10s D s.1 → Lt10s D s.2 → Lt10s (D + 11 * F.length) (F.foldl redStep s).1 ∧ Lt10s (D + 11 * F.length) (F.foldl redStep s).2 := by
    intro F
    induction F with
    | nil => intro s D _ h1 h2; exact ⟨h1, h2⟩
    | cons r F ih =>
      intro s D hF h1 h2
      have hr := hF r (List.mem_cons_self ..)
      have hp0 : r.getD (pv r).toNat 0 ≠ 0 := by
        rcases pv_spec r with ⟨h, _⟩ | ⟨_, _, h, _⟩
        · omega
        · exact h
      have hq : Lt10 D (Ln.fq (s.1.getD (pv r).toNat 0) (r.getD (pv r).toNat 0)) := Nat.lt_of_le_of_lt (Ln.fq_abs hp0) (h1.at_ _)
      have h3 := subL_lt10 h1 (lim_lt10 hr.1) hq
      have h4 := ih (redStep s r) (D + 11) (fun q hq => hF q (List.mem_cons_of_mem _ hq)) h3 (by
        intro z hz
        rcases List.mem_append.1 hz with hz | hz
        · exact (h2 z hz).mono (by omega)
        · rw [List.mem_singleton.1 hz]; exact hq.mono (by omega))
      rw [List.length_cons, show D + 11 * (F.length + 1) = D + 11 + 11 * F.length by omega]
      exact h4
  exact key F (x, []) 10 hF (lim_lt10 hx) (by intro z hz; cases hz)

/-- Where the loop stands. -/
structure Rst (n m : Nat) (w w2 wr : World) (B2 G2 lb : Nat) (rs : List LR) (l : LR) (xi : List Int) (vo : Value) (mu : List Int) : Prop where
  row : Row wr l.gx xi
  lns : Lns n m wr B2 G2 rs
  box : wr.heap[lb]? = some (.cells #[l.xv n, l.bv 1] 90 (0, 0))
  own : wr.ownsRow w2.heap.size 38 1 vo mu.length (strs mu)
  low : l.gx < B2 ∧ lb < w2.heap.size ∧ G2 < w2.heap.size ∧ w.heap.size ≤ l.gx ∧ ∀ r ∈ rs, r.gx < w2.heap.size ∧ r.gb < w2.heap.size
  size : w2.heap.size ≤ wr.heap.size ∧ w.heap.size ≤ w2.heap.size
  below : Below w.heap.size w wr
  ok : GOk wr
  gb : Gb w.heap.size
theorem Rst.nb {n m : Nat} {w w2 wr w' : World} {B2 G2 lb : Nat} {rs : List LR} {l : LR} {xi : List Int} {vo : Value} {mu : List Int} (h : Rst n m w w2 wr B2 G2 lb rs l xi vo mu) (hb : Below wr.heap.size wr w') : Rst n m w w2 w' B2 G2 lb rs l xi vo mu :=
  ⟨h.row.nb hb, h.lns.nb hb, (hb.block lb (Nat.lt_of_lt_of_le h.low.2.1 h.size.1)).trans h.box, own_nb2 h.own hb, h.low, ⟨Nat.le_trans h.size.1 hb.size, h.size.2⟩, h.below.trans (hb.mono h.below.size), h.ok.below hb, h.gb⟩
/-- less has been called. -/
theorem Rst.less {n m : Nat} {w w2 wr w' : World} {B2 G2 lb : Nat} {rs : List LR} {l : LR} {xi yi : List Int} {vo : Value} {mu : List Int} (h : Rst n m w w2 wr B2 G2 lb rs l xi vo mu) (hr : Row w' l.gx yi) (hk : Kp (fun i => i = l.gx) wr w') (hlb : lb ≠ l.gx) : Rst n m w w2 w' B2 G2 lb rs l yi vo mu := by
  refine ⟨hr, h.lns.kp hk ?_ (fun r hr => ?_), (hk.block lb (Nat.lt_of_lt_of_le h.low.2.1 h.size.1) hlb).trans h.box, ?_, h.low, ⟨Nat.le_trans h.size.1 hk.size, h.size.2⟩, ?_, ?_, h.gb⟩
  · have := h.lns.low.1; have := h.low.1; omega
  · have := h.lns.low.2 r hr; have := h.low.1; omega
  · refine own_kp h.own hk (fun i hi => ?_)
    have := h.low.1
    have := h.lns.low.1
    have := h.low.2.2.1
    omega
  · exact h.below.trans (hk.below h.below.size (fun i hi => by have := h.low.2.2.2.1; omega))
  · exact h.ok.keep h.gb (by intro i hi; have := h.low.2.2.2.1; omega) hk
/-- A multiple has been appended. -/
theorem Rst.push {n m : Nat} {w w2 wr w' : World} {B2 G2 lb : Nat} {rs : List LR} {l : LR} {xi : List Int} {vo v' : Value} {mu : List Int} {q : Int} {o : Obj} (h : Rst n m w w2 wr B2 G2 lb rs l xi vo mu) (hg : (wr.alloc o).grownBy w' vo.ownBlock)
    (ho : w'.ownsRow w2.heap.size 38 1 v' (mu.length + 1) (strs mu ++ [.string (tx q)])) : Rst n m w w2 w' B2 G2 lb rs l xi v' (mu ++ [q]) := by
  have ha := h.nb (nb_alloc wr o)
  have hv : ∀ k, vo.ownBlock = some k → w2.heap.size ≤ k := fun k hk => (h.own.lt k hk).1
  have hb : Below w2.heap.size (wr.alloc o) w' := grown_below (base := 0) (n := 0) (T := 0) (xs := []) hg ha.size.1 hv
  have hB : B2 < w2.heap.size := Nat.lt_of_le_of_lt h.lns.low.1 h.low.2.2.1
  have hkp : Kp (fun i => w2.heap.size ≤ i) (wr.alloc o) w' := ⟨hb.os, hb.tape, hb.output, hb.size, fun i hi hs => hb.block i (by omega)⟩
  have hgx := h.low.1
  refine ⟨ha.row.kp hkp (by omega), ha.lns.kp hkp (by have := h.low.2.2.1; omega) (fun r hr => by have := h.low.2.2.2.2 r hr; omega), (hb.block lb h.low.2.1).trans ha.box, ?_, h.low, ⟨Nat.le_trans ha.size.1 hb.size, h.size.2⟩, ha.below.trans (hb.mono h.size.2), ?_, h.gb⟩
  · rw [List.length_append]
    have e : strs (mu ++ [q]) = strs mu ++ [.string (tx q)] := by simp [strs]
    rw [e]
    exact ho
  · exact ha.ok.keep (h.gb.mono h.size.2) (by intro i hi; exact hi) hkp

/-- What reduce answers. -/
def RedPost (F : List (List Int)) (x : List Int) (w : World) (e : Ending) (w' : World) : Prop :=
  ∃ v1 v2, e = .returned (.tuple #[v1, v2]) ∧ TxAt w' v1 (redL F x).1 ∧ TxAt w' v2 (redL F x).2 ∧ Below w.heap.size w w' ∧ GOk w'
theorem own_tx {w : World} {B n : Nat} {v : Value} {xs : List Int} (h : w.ownsRow B 38 1 v n (strs xs)) : TxAt w v xs := by
  have hl : n = xs.length := by have := h.1; simp [strs] at this; omega
  subst hl
  rcases h.2 with ⟨hv, h0⟩ | ⟨g, cap, cur, hv, hB, hG, h1, h2, h3, h4⟩
  · have : xs = [] := List.eq_nil_of_length_eq_zero h0
    subst this
    exact ⟨none, 0, hv, fun j hj => by simp at hj⟩
  · refine ⟨some ⟨g, 0, none⟩, cap, hv, fun j hj => ⟨g, 0, rfl, ?_⟩⟩
    rw [Nat.zero_add, cell_of_row w g j _ _ _ hG]
    have h5 : (cur.toList.take (xs.length * 1))[j]? = (strs xs)[j]? := by rw [h4]
    rw [List.getElem?_take_of_lt (by omega), Array.getElem?_toList] at h5
    rw [h5]
    simp [strs, List.getD_eq_getElem?_getD, List.getElem?_eq_getElem hj]
/-- A matrix of one row, in a block of its own. -/
theorem mat_one {w : World} {v : Value} {xs : List Int} (h : RowAt w v xs) (t : TypeId) : MatAt (w.alloc (.cells #[v] t)) (.slice (some ⟨w.heap.size, 0, none⟩) 1 1) [xs] := by
  refine ⟨_, 1, rfl, Nat.le_refl _, by show 1 ≤ 9223372036854775807; omega, fun i hi => ⟨w.heap.size, 0, v, rfl, ?_, ?_⟩⟩
  · have : i = 0 := by simpa using hi
    subst this
    exact alloc_one _ _ _
  · have : i = 0 := by simpa using hi
    subst this
    exact h.nb (nb_alloc _ _)

theorem one_line {rs : List LR} {x : List Int} (h : rs.map LR.ln = linesOf [x]) : ∃ l, rs = [l] := by
  have := congrArg List.length h
  rw [List.length_map, linesOf_len] at this
  exact List.length_eq_one_iff.1 this
set_option maxRecDepth 100000 in
set_option maxHeartbeats 1600000 in
theorem reduce_main (w : World) (vf vx : Value) (F : List (List Int)) (xs : List Int) (n m : Nat) (hF : MatAt w vf F) (hx : RowAt w vx xs) (hm : F.length = m) (hxn : xs.length = n) (hFn : ∀ r ∈ F, r.length = n) (hFl : ∀ r ∈ F, Lim r ∧ 0 ≤ pv r) (hxl : Lim xs)
    (hn0 : 1 ≤ n) (hn1 : n ≤ 64) (hm0 : 1 ≤ m) (hm1 : m ≤ 12) (hG : GOk w) :
    Calls Tryz.prog 72 #[vf, vx] w (RedPost F xs w) := by
  obtain ⟨i1, hi1, hy0, hy1, hy2⟩ := info_parts Tryz.infoS
  have L1 := Lib.hid (lines_any (w.alloc (.cells #[vx] 35)) _ [xs] n 1 rfl (mat_one hx _) (by intro r hr; rw [List.mem_singleton.1 hr]; exact hxn) hn0 (by omega) (by omega) (by omega) (hG.below (nb_alloc _ _)))
  have L2 := Lib.hid (fun W (hW : Below w.heap.size w W) (hg : GOk W) => lines_any W vf F n m hm (hF.nb hW) hFn hn0 (by omega) hm0 (by omega) hg)
  have HV : Hid (∃ p c, vx = .slice p n c) := Lib.hid (by obtain ⟨p, c, h, _⟩ := hx.slice_; exact ⟨p, c, by rw [h, hxn]⟩)
  have HH := Lib.hid (And.intro hm (And.intro hxn (And.intro hFn (And.intro hFl hxl))))
  have GB0 := hG.gb
  clear hF hx hm hxn hFn hFl hxl
  obtain ⟨px, cx, rfl⟩ := HV.out
  go_enter Tryz.func72, Tryz.ntmps72
  go_wp2_with (first
    | (go_at_call 46; have _t := hb1; refine (L2.out _ (nb_trans (nb_alloc _ _) (nb_trans hb1 (nb_alloc _ _))) (hg1.below (nb_alloc _ _))).mono ?_; rintro e w2 ⟨G2, cap2, rs2, rfl, hcap2, hrs2, hl2, hb2, hg2⟩)
    | (go_at_call 46; refine L1.out.mono ?_; rintro e w1 ⟨G1, cap1, rs1, rfl, hcap1, hrs1, hl1, hb1, hg1⟩; obtain ⟨l, rfl⟩ : ∃ l, rs1 = [l] := one_line hrs1; have q1 : w1.cell? ⟨G1, 0, none⟩ = some (.slice (some ⟨l.gx, 0, none⟩) n l.cx) := hl1.xcell (i := 0) rfl; have q2 : w1.cell? ⟨G1, 1, none⟩ = some (.slice (some ⟨l.gb, 0, none⟩) 1 l.cb) := hl1.bcell (i := 0) rfl))
  have hlx : l.x = xs := by
    have h := hrs1
    have h2 : l.ln = (xs, unitL 1 0) := by simpa [linesOf] using h
    exact congrArg Prod.fst h2
  have hR1 := (hl1.rows l (List.mem_cons_self ..)).1
  have hlow1 := hl1.low.2 l (List.mem_cons_self ..)
  rw [alloc_size] at hlow1
  obtain ⟨lb, hlb⟩ : ∃ x, x = w1.heap.size := ⟨_, rfl⟩
  have hB2 : (w1.alloc (.cells #[.slice (some ⟨l.gx, 0, none⟩) n l.cx, .slice (some ⟨l.gb, 0, none⟩) 1 l.cb] 90)).heap.size = lb + 1 := by rw [alloc_size, hlb]
  obtain ⟨B2, hB2e⟩ : ∃ x, x = lb + 1 := ⟨_, rfl⟩
  rw [hB2, ← hB2e] at hl2 hb2
  have hbox0 : (w1.alloc (.cells #[.slice (some ⟨l.gx, 0, none⟩) n l.cx, .slice (some ⟨l.gb, 0, none⟩) 1 l.cb] 90)).heap[lb]? = some (.cells #[.slice (some ⟨l.gx, 0, none⟩) n l.cx, .slice (some ⟨l.gb, 0, none⟩) 1 l.cb] 90 (0, 0)) := by
    rw [hlb]; simp [World.alloc, -World.alloc_eq]
  have hw2 : w.heap.size ≤ w2.heap.size := by
    have h1 := (nb_alloc w (.cells #[.slice px n cx] 35)).size
    have h2 := hb1.size
    have h3 := hl2.lt
    have h4 := hl2.low.1
    omega
  have HST : Hid (Rst n m w w2 w2 B2 G2 lb rs2 l xs (.slice none 0 0) []) := by
    refine ⟨?_, hl2, ?_, World.ownsRow_nil _ _ _ _, ⟨?_, ?_, hl2.lt, ?_, fun r hr => ⟨(hl2.rows r hr).1.lt, (hl2.rows r hr).2.lt⟩⟩, ⟨Nat.le_refl _, hw2⟩, ?_, hg2, GB0⟩
    · rw [← hlx]
      exact (hR1.nb (nb_alloc _ _)).of_block (hb2.block _ (by have := hR1.lt; omega))
    · exact (hb2.block lb (by omega)).trans hbox0
    · have := hR1.lt; omega
    · have := hl2.lt; have := hl2.low.1; omega
    · exact Nat.le_trans (Nat.le_of_lt (by omega)) hlow1.1
    · have b1 := nb_trans (nb_alloc w (.cells #[.slice px n cx] 35)) (nb_trans hb1 (nb_alloc w1 (.cells #[.slice (some ⟨l.gx, 0, none⟩) n l.cx, .slice (some ⟨l.gb, 0, none⟩) 1 l.cb] 90)))
      exact b1.trans (hb2.mono (by have := b1.size; rw [hB2] at this; omega))
  have HRS : Hid (rs2.map LR.ln = linesOf F) := hrs2
  have hlbx : l.gx < lb := hlb ▸ hR1.lt
  rw [← hlb] at *
  clear hlx hR1 hlow1 hlb hB2 hbox0 hrs1 hrs2 hl1 hb1 hg1 hl2 hb2 hg2 q1 q2 L1 L2 HV GB0 hcap1
  go_loopw [5, 21] (fun s5 s21 wr => ∃ i : Nat, i ≤ m ∧ s21 = .int .i64 i ∧ Hid (Rst n m w w2 wr B2 G2 lb rs2 l (redL (F.take i) xs).1 s5 (redL (F.take i) xs).2)) (fun _ s21 _ => m - (intOf s21).toNat)
  case atStart => exact ⟨0, Nat.zero_le _, rfl, HST⟩
  case round =>
    clear HST
    obtain ⟨i, hi, rfl, hst⟩ := hrel
    obtain ⟨vo, hvo⟩ : ∃ x, x = u5 := ⟨_, rfl⟩
    subst hvo
    by_cases him : i < m
    · have hFi : i < F.length := by rw [HH.out.1]; exact him
      obtain ⟨q, hq⟩ : ∃ q, rs2[i]? = some q := ⟨rs2[i]'(by have := congrArg List.length HRS.out; rw [List.length_map, linesOf_len] at this; omega), List.getElem?_eq_getElem _⟩
      have hqx : q.x = F.getD i [] := by
        have h1 : (rs2.map LR.ln)[i]? = some q.ln := by rw [List.getElem?_map, hq]; rfl
        rw [HRS.out] at h1
        have h2 : (linesOf F)[i]? = some (F.getD i [], unitL F.length i) := by
          simp [linesOf, List.getD_eq_getElem?_getD, List.getElem?_eq_getElem hFi]
        rw [h2] at h1
        injection h1 with h1
        exact (congrArg Prod.fst h1).symm
      have hqM := List.mem_of_getElem? hq
      have hFm : q.x ∈ F := by rw [hqx]; exact getD_mem [] hFi
      have hS := hst.out
      have hqn := HH.out.2.2.1 _ hFm
      have hql := HH.out.2.2.2.1 _ hFm
      have htk : F.take (i + 1) = F.take i ++ [q.x] := by
        rw [List.take_succ_eq_append_getElem hFi, hqx, List.getD_eq_getElem?_getD, List.getElem?_eq_getElem hFi]; rfl
      have hrl := redL_len (F.take i) xs (fun r hr => HH.out.2.2.1 r (List.mem_of_mem_take hr)) HH.out.2.1
      have hbd := redL_bd (F.take i) xs (fun r hr => HH.out.2.2.2.1 r (List.mem_of_mem_take hr)) HH.out.2.2.2.2
      have htl : (F.take i).length = i := by rw [List.length_take]; omega
      rw [htl] at hrl hbd
      have hstep : redL (F.take (i + 1)) xs = redStep (redL (F.take i) xs) q.x := by rw [htk, redL_snoc]
      obtain ⟨xi, hxi⟩ : ∃ x, x = (redL (F.take i) xs).1 := ⟨_, rfl⟩
      obtain ⟨mu, hmu⟩ : ∃ x, x = (redL (F.take i) xs).2 := ⟨_, rfl⟩
      have hpair : redL (F.take i) xs = (xi, mu) := by rw [hxi, hmu]
      rw [hpair] at hstep
      rw [← hxi] at hrl hbd hS
      rw [← hmu] at hrl hbd hS
      obtain ⟨pn, hpn⟩ : ∃ pn : Nat, pv q.x = pn := ⟨(pv q.x).toNat, by have := hql.2; omega⟩
      have hp0 : pn < n ∧ q.x.getD pn 0 ≠ 0 := by
        rcases pv_spec q.x with ⟨h, _⟩ | ⟨_, h1, h2, _⟩
        · rw [h] at hql; omega
        · rw [hpn, Int.toNat_natCast] at h2
          exact ⟨by omega, h2⟩
      have D0 : 10 + 11 * i ≤ 4000000000 := by omega
      have lv : Lt10 (10 + 11 * i) (xi.getD pn 0) := hbd.1.at_ pn
      have lu : Lt10 10 (q.x.getD pn 0) := (lim_lt10 hql.1).at_ pn
      have lk : Lt10 (10 + 11 * i) (Ln.fq (xi.getD pn 0) (q.x.getD pn 0)) := Nat.lt_of_le_of_lt (Ln.fq_abs hp0.2) lv
      have hstep2 : redL (F.take (i + 1)) xs = (subL (Ln.fq (xi.getD pn 0) (q.x.getD pn 0)) xi q.x, mu ++ [Ln.fq (xi.getD pn 0) (q.x.getD pn 0)]) := by
        rw [hstep]
        unfold redStep
        rw [hpn, Int.toNat_natCast]
      have WD := Lib.hid (fun W (hg : GOk W) => wdiv_fq (xi.getD pn 0) (q.x.getD pn 0) (lv.za (by omega) (by omega)) (lu.za (by omega) (by omega)) hp0.2 W hg)
      have k1 : wr.cell? ⟨lb, 0, none⟩ = some (.slice (some ⟨l.gx, 0, none⟩) n l.cx) := (lb_cell hS.box).1
      have k2 : wr.cell? ⟨lb, 1, none⟩ = some (.slice (some ⟨l.gb, 0, none⟩) 1 l.cb) := (lb_cell hS.box).2.1
      have k3 := hS.row.cell (i := pn) (by rw [hrl.1]; exact hp0.1)
      have g1 := hS.lns.xcell hq
      have g2 := hS.lns.bcell hq
      rw [Nat.mul_comm] at g1 g2
      unfold LR.xv at g1
      unfold LR.bv at g2
      have hrw := (hS.lns.rows q hqM).1
      have k4 := hrw.cell (i := pn) (by rw [hqn]; exact hp0.1)
      have FX := Lib.hid (fun W (hW : Below wr.heap.size wr W) => firstTx_any W (.slice (some ⟨q.gx, 0, none⟩) n q.cx) q.x ((hrw.nb hW).tx hqn) (by omega))
      rw [hpn] at FX
      have hne : l.gx ≠ q.gx := by have := hS.low.1; have := hS.lns.low.2 q hqM; omega
      obtain ⟨kk, hkk⟩ : ∃ k, k = Ln.fq (xi.getD pn 0) (q.x.getD pn 0) := ⟨_, rfl⟩
      rw [← hkk] at lk WD hstep2
      have LS := Lib.hid (fun (W : World) (hr : Rst n m w w2 W B2 G2 lb rs2 l xi vo mu) => less_nil W w.heap.size l.gx q.gx l.cx q.cx n (10 + 11 * i) 10 kk xi q.x (.slice (some ⟨l.gb, 0, none⟩) 1 l.cb) hrl.1 hqn hr.ok hr.gb hr.low.2.2.2.1 hr.row (hr.lns.rows q hqM).1 hne (by omega) hbd.1 (lim_lt10 hql.1) lk (by omega) (by omega) D0 (by omega))
      have hml : mu.length = i := hrl.2
      have HSTP := Lib.hid hstep2
      have HS := Lib.hid hS
      obtain ⟨X, hX⟩ : ∃ X, X = tx (xi.getD pn 0) := ⟨_, rfl⟩
      obtain ⟨Y, hY⟩ : ∃ Y, Y = tx (q.x.getD pn 0) := ⟨_, rfl⟩
      obtain ⟨Z, hZ⟩ : ∃ Z, Z = tx kk := ⟨_, rfl⟩
      obtain ⟨Z', hZ'⟩ : ∃ Z, Z = tx (xi.getD pn 0 - q.x.getD pn 0 * kk) := ⟨_, rfl⟩
      rw [← hX, ← hY, ← hZ, ← hZ'] at WD
      rw [← hX] at k3
      rw [← hY] at k4
      rw [← hZ] at LS
      have HZZ := Lib.hid hZ
      have HML := Lib.hid hml
      have i3 : (pn : Int) < (n : Int) := by omega
      have i4 : (0 : Int) ≤ (pn : Int) := by omega
      have hgr := hS.ok
      have HLG := Lib.hid hS.low
      have HSZ := Lib.hid hS.size
      have hwrs : w2.heap.size ≤ wr.heap.size := hS.size.1
      clear hX hY hZ hZ' hkk hst hS hqx hqM hFm hqn hql htk hrl hbd htl hstep hxi hmu hpair hpn hp0 lv lu lk hstep2 hrw hml hq hFi
      go_wp2_with (go_at_call 116; refine (FX.out _ (nb_alloc _ _)).mono ?_; rintro e w3 ⟨rfl, hb3⟩; have hb4 := nb_trans (nb_alloc wr _) hb3)
      have KS : ∀ wa wb : World, Below wa.heap.size wa wb → (fun w' => Below wr.heap.size wr w' ∧ Rst n m w w2 w' B2 G2 lb rs2 l xi vo mu ∧ w'.cell? ⟨lb, 0, none⟩ = some (.slice (some ⟨l.gx, 0, none⟩) n l.cx) ∧ w'.cell? ⟨lb, 1, none⟩ = some (.slice (some ⟨l.gb, 0, none⟩) 1 l.cb) ∧ w'.cell? ⟨l.gx, pn, none⟩ = some (.string X) ∧ w'.cell? ⟨wr.heap.size, 0, none⟩ = some (.slice (some ⟨q.gx, 0, none⟩) n q.cx) ∧ w'.cell? ⟨q.gx, pn, none⟩ = some (.string Y)) wa → (fun w' => Below wr.heap.size wr w' ∧ Rst n m w w2 w' B2 G2 lb rs2 l xi vo mu ∧ w'.cell? ⟨lb, 0, none⟩ = some (.slice (some ⟨l.gx, 0, none⟩) n l.cx) ∧ w'.cell? ⟨lb, 1, none⟩ = some (.slice (some ⟨l.gb, 0, none⟩) 1 l.cb) ∧ w'.cell? ⟨l.gx, pn, none⟩ = some (.string X) ∧ w'.cell? ⟨wr.heap.size, 0, none⟩ = some (.slice (some ⟨q.gx, 0, none⟩) n q.cx) ∧ w'.cell? ⟨q.gx, pn, none⟩ = some (.string Y)) wb := fun wa wb hb h => ⟨nb_trans h.1 hb, h.2.1.nb hb, cellB hb h.2.2.1, cellB hb h.2.2.2.1, cellB hb h.2.2.2.2.1, cellB hb h.2.2.2.2.2.1, cellB hb h.2.2.2.2.2.2⟩
      have KB : (fun w' => Below wr.heap.size wr w' ∧ Rst n m w w2 w' B2 G2 lb rs2 l xi vo mu ∧ w'.cell? ⟨lb, 0, none⟩ = some (.slice (some ⟨l.gx, 0, none⟩) n l.cx) ∧ w'.cell? ⟨lb, 1, none⟩ = some (.slice (some ⟨l.gb, 0, none⟩) 1 l.cb) ∧ w'.cell? ⟨l.gx, pn, none⟩ = some (.string X) ∧ w'.cell? ⟨wr.heap.size, 0, none⟩ = some (.slice (some ⟨q.gx, 0, none⟩) n q.cx) ∧ w'.cell? ⟨q.gx, pn, none⟩ = some (.string Y)) w3 := ⟨hb4, HS.out.nb hb4, cellB hb4 k1, cellB hb4 k2, cellB hb4 k3, cellB hb3 (alloc1_0 _ _ _ _), cellB hb4 k4⟩
      have j1 := KB.2.2.1
      have j2 := KB.2.2.2.1
      have j3 := KB.2.2.2.2.1
      have j4 := KB.2.2.2.2.2.1
      have j5 := KB.2.2.2.2.2.2
      go_region_held3 (fun w' => Below wr.heap.size wr w' ∧ Rst n m w w2 w' B2 G2 lb rs2 l xi vo mu ∧ w'.cell? ⟨lb, 0, none⟩ = some (.slice (some ⟨l.gx, 0, none⟩) n l.cx) ∧ w'.cell? ⟨lb, 1, none⟩ = some (.slice (some ⟨l.gb, 0, none⟩) 1 l.cb) ∧ w'.cell? ⟨l.gx, pn, none⟩ = some (.string X) ∧ w'.cell? ⟨wr.heap.size, 0, none⟩ = some (.slice (some ⟨q.gx, 0, none⟩) n q.cx) ∧ w'.cell? ⟨q.gx, pn, none⟩ = some (.string Y))
        (first | exact KS _ _ hb5 (by assumption) | exact KS _ _ (nb_drew _) KB)
        (first | (go_at_call 53; refine (WD.out _ ((by assumption : (fun w' => Below wr.heap.size wr w' ∧ Rst n m w w2 w' B2 G2 lb rs2 l xi vo mu ∧ w'.cell? ⟨lb, 0, none⟩ = some (.slice (some ⟨l.gx, 0, none⟩) n l.cx) ∧ w'.cell? ⟨lb, 1, none⟩ = some (.slice (some ⟨l.gb, 0, none⟩) 1 l.cb) ∧ w'.cell? ⟨l.gx, pn, none⟩ = some (.string X) ∧ w'.cell? ⟨wr.heap.size, 0, none⟩ = some (.slice (some ⟨q.gx, 0, none⟩) n q.cx) ∧ w'.cell? ⟨q.gx, pn, none⟩ = some (.string Y)) _).2.1.ok)).mono ?_; rintro e w5 ⟨rfl, hb5⟩))
      have H5 : (fun w' => Below wr.heap.size wr w' ∧ Rst n m w w2 w' B2 G2 lb rs2 l xi vo mu ∧ w'.cell? ⟨lb, 0, none⟩ = some (.slice (some ⟨l.gx, 0, none⟩) n l.cx) ∧ w'.cell? ⟨lb, 1, none⟩ = some (.slice (some ⟨l.gb, 0, none⟩) 1 l.cb) ∧ w'.cell? ⟨l.gx, pn, none⟩ = some (.string X) ∧ w'.cell? ⟨wr.heap.size, 0, none⟩ = some (.slice (some ⟨q.gx, 0, none⟩) n q.cx) ∧ w'.cell? ⟨q.gx, pn, none⟩ = some (.string Y)) w5 := by assumption
      obtain ⟨-, m1, m2, m3, -, m4, -⟩ := H5
      clear KS KB hb3 hb4 hb5 j1 j2 j3 j4 j5 k1 k2 k3 k4 g1 g2 HS hgr FX WD
      have HM1 := Lib.hid m1
      have hsz5 : w2.heap.size ≤ w5.heap.size := m1.size.1
      go_wp2_with (first
        | (go_at_call 84; refine (LS.out _ HM1.out).mono ?_; rintro e w6 ⟨rfl, hr6, hk6⟩; have h6 : Rst n m w w2 w6 B2 G2 lb rs2 l (subL kk xi q.x) vo mu := HM1.out.less hr6 hk6 (by omega); have H6 := Lib.hid h6; clear hr6 hk6 h6)
        | (at_builtin; refine wpList_append_own _ rfl _ _ 88 rfl w2.heap.size 38 i1 (.string ⟨#[]⟩) 1 16 Tryz.underlying88 hi1 hy0 hy1 hy2 rfl (by decide) vo i (strs mu) rfl (by have h := H6.out.own.alloc (.cells #[.string Z] 38); rw [HML.out] at h; exact h) ⟨w6.heap.size, 0, none⟩ 1 1 [.string Z] rfl rfl (cell_one_new _ _ _) (by intro y hy; simp at hy; subst hy; rfl) (by unfold maxLen; omega) (by omega) (by have := H6.out.size.1; rw [alloc_size]; omega) ?_; intro v' w7 hown7 hgrow7 hnil7))
      have H7 : Hid (Rst n m w w2 w7 B2 G2 lb rs2 l (redL (F.take (i + 1)) xs).1 v' (redL (F.take (i + 1)) xs).2) := Lib.hid (by
        rw [HSTP.out]
        rw [HZZ.out] at hown7 hgrow7
        exact H6.out.push hgrow7 (by rw [HML.out]; exact hown7))
      clear hown7 hgrow7 hnil7 m1 m2 m3 m4
      go_wp2_with fail
      go_roundw
      case rel => exact ⟨i + 1, by omega, by go_num, H7⟩
      case measure => (simp [intOf]) <;> omega
    · obtain rfl : i = m := by omega
      have hS := hst.out
      rw [List.take_of_length_le (by rw [HH.out.1]; exact Nat.le_refl _)] at hS
      have k1 : wr.cell? ⟨lb, 0, none⟩ = some (.slice (some ⟨l.gx, 0, none⟩) n l.cx) := (lb_cell hS.box).1
      have HS := Lib.hid hS
      clear hS hst
      go_wp2_with fail
      go_ret2
      have hrl := redL_len F xs HH.out.2.2.1 HH.out.2.1
      exact ⟨_, _, rfl, HS.out.row.tx hrl.1, own_tx HS.out.own, HS.out.below, HS.out.ok⟩
end Go.Proofs.YtmfkpmepgbjmkaaGreatDoor
