/-
  WALKS: slices.IndexFunc and ContainsFunc over a row of ints.
  WALKS: table.Check, Columns; hermite's pivot; IndexFunc and ContainsFunc over matrices.
  WALKS: IndexFunc and ContainsFunc over a matrix, with a closure that bears variables.
  WALKS: hermite's isForm, IsForm, Pivots.
-/
import Derived.Test.YtmfkpmepgbjmkaaGreatDoorG1
set_option linter.unusedVariables false
set_option linter.unusedSimpArgs false
namespace Go.Proofs.YtmfkpmepgbjmkaaGreatDoor
open Go.RowKit

/-- The first place where P holds, or -1. -/
def firstAt (P : Nat → Bool) : Nat → Int → Prop := fun n r => (r = -1 ∧ ∀ i, i < n → P i = false) ∨ (0 ≤ r ∧ r < n ∧ P r.toNat = true ∧ ∀ i, i < r.toNat → P i = false)

set_option maxRecDepth 100000 in
theorem indexRow_any (w : World) (f : FuncId) (v : Value) (xs : List Int) (P : Nat → Bool) (h : RowAt w v xs) (hcall : ∀ x W, Sem.run Tryz.prog (callFunc f #[x]) W = .ok (.enter f #[x]) W)
    (hf : ∀ i W, i < xs.length → Below w.heap.size w W → Calls Tryz.prog f #[.int .i64 (xs.getD i 0)] W fun e w' => e = .returned (.bool (P i)) ∧ Below W.heap.size W w') :
    Calls Tryz.prog 88 #[v, .func (.func f) #[] #[]] w fun e w' => ∃ r, firstAt P xs.length r ∧ e = .returned (.int .i64 r) ∧ Below w.heap.size w w' := by
  obtain ⟨p, c, rfl, hc, hmax, -, hcell⟩ := h
  obtain ⟨n, hnl⟩ : ∃ n, n = xs.length := ⟨_, rfl⟩
  rw [← hnl] at hc hmax hcell hf ⊢
  have HC := Lib.hid hcell
  have HF := Lib.hid hf
  clear hcell hf hnl
  go_enter Tryz.func88, Tryz.ntmps88
  go_wp2_with fail
  go_loopw [8] (fun s8 wr => ∃ i : Nat, i ≤ n ∧ s8 = .int .i64 i ∧ Hid (∀ j, j < i → P j = false) ∧ Below w.heap.size w wr) (fun s8 _ => n - (intOf s8).toNat)
  case atStart => exact ⟨0, Nat.zero_le _, rfl, (fun j hj => by omega), nb_refl _⟩
  case round =>
    obtain ⟨i, hi, rfl, hp, hb⟩ := hrel
    by_cases hin : i < n
    · obtain ⟨b, o, rfl, hcl⟩ := HC.out i hin
      have hcl' := cellB hb hcl
      have FI := Lib.hid (HF.out i wr hin hb)
      obtain ⟨x, hx⟩ : ∃ x, x = xs.getD i 0 := ⟨_, rfl⟩
      rw [← hx] at hcl' FI
      clear hx hcl
      cases hpi : P i with
      | true =>
        rw [hpi] at FI
        have HPI := Lib.hid hpi
        clear hpi
        go_wp2_with (with_reducible refine FI.out.mono ?_; rintro e w1 ⟨rfl, hb1⟩)
        go_ret
        exact ⟨i, .inr ⟨by omega, by omega, by rw [Int.toNat_natCast]; exact HPI.out, by rw [Int.toNat_natCast]; exact hp.out⟩, rfl, hb.trans (hb1.mono hb.size)⟩
      | false =>
        rw [hpi] at FI
        have HPI := Lib.hid hpi
        clear hpi
        have HP' : Hid (∀ j, j < i + 1 → P j = false) := Lib.hid (fun j hj => by
          rcases Nat.lt_or_eq_of_le (Nat.le_of_lt_succ hj) with h | rfl
          · exact hp.out j h
          · exact HPI.out)
        go_wp2_with (with_reducible refine FI.out.mono ?_; rintro e w1 ⟨rfl, hb1⟩)
        go_roundw
        case rel => exact ⟨i + 1, by omega, by go_num, HP', hb.trans (hb1.mono hb.size)⟩
        case measure => (simp [intOf]) <;> omega
    · obtain rfl : i = n := by omega
      go_wp2_with fail
      go_ret
      exact ⟨-1, .inl ⟨rfl, hp.out⟩, rfl, hb⟩
set_option maxRecDepth 100000 in
theorem containsRow_any (w : World) (f : FuncId) (v : Value) (xs : List Int) (P : Nat → Bool) (h : RowAt w v xs) (hcall : ∀ x W, Sem.run Tryz.prog (callFunc f #[x]) W = .ok (.enter f #[x]) W)
    (hf : ∀ i W, i < xs.length → Below w.heap.size w W → Calls Tryz.prog f #[.int .i64 (xs.getD i 0)] W fun e w' => e = .returned (.bool (P i)) ∧ Below W.heap.size W w') :
    Calls Tryz.prog 78 #[v, .func (.func f) #[] #[]] w fun e w' => e = .returned (.bool (decide (∃ i, i < xs.length ∧ P i = true))) ∧ Below w.heap.size w w' := by
  have IX := Lib.hid (indexRow_any w f v xs P h hcall hf)
  have HR : Hid (∀ r, firstAt P xs.length r → decide (r ≥ 0) = decide (∃ i, i < xs.length ∧ P i = true)) := Lib.hid (by
    intro r hr
    rw [decide_eq_decide]
    rcases hr with ⟨rfl, h⟩ | ⟨h0, h1, h2, h3⟩
    · constructor
      · intro h; omega
      · rintro ⟨i, hi, hp⟩; rw [h i hi] at hp; cases hp
    · exact ⟨fun _ => ⟨r.toNat, by omega, h2⟩, fun _ => h0⟩)
  clear h hf hcall
  obtain ⟨B, hB⟩ : ∃ B, B = decide (∃ i, i < xs.length ∧ P i = true) := ⟨_, rfl⟩
  rw [← hB] at HR ⊢
  clear hB
  go_enter Tryz.func78, Tryz.ntmps78
  go_wp2_with (go_at_call 88; refine IX.out.mono ?_; rintro e w1 ⟨r, hr, rfl, hb1⟩)
  go_ret
  exact ⟨by rw [← HR.out r hr]; (first | rfl | (congr 1; simp)), hb1⟩

theorem great_any (x : Int) (hx : I64 x) (w : World) : Calls Tryz.prog 79 #[.int .i64 x] w fun e w' => e = .returned (.bool (decide (x < -1000000000 ∨ 1000000000 < x))) ∧ Below w.heap.size w w' := by
  by_cases h1 : 1000000000 < x
  · have h2 : decide (x < -1000000000 ∨ 1000000000 < x) = true := decide_eq_true (.inr h1)
    rw [h2]
    clear h2
    go_enter Tryz.func79, Tryz.ntmps79
    go_wp2_with fail
    go_ret
    exact ⟨rfl, nb_refl _⟩
  · by_cases h3 : x < -1000000000
    · have h2 : decide (x < -1000000000 ∨ 1000000000 < x) = true := decide_eq_true (.inl h3)
      rw [h2]
      clear h2
      go_enter Tryz.func79, Tryz.ntmps79
      go_wp2_with fail
      go_ret
      exact ⟨rfl, nb_refl _⟩
    · have h2 : decide (x < -1000000000 ∨ 1000000000 < x) = false := decide_eq_false (by omega)
      rw [h2]
      clear h2
      go_enter Tryz.func79, Tryz.ntmps79
      go_wp2_with fail
      go_ret
      exact ⟨rfl, nb_refl _⟩
theorem nonzero_any (x : Int) (hx : I64 x) (w : World) : Calls Tryz.prog 89 #[.int .i64 x] w fun e w' => e = .returned (.bool (decide (x ≠ 0))) ∧ Below w.heap.size w w' := by
  by_cases h1 : x = 0
  · subst h1
    go_enter Tryz.func89, Tryz.ntmps89
    go_wp2_with fail
    go_ret
    exact ⟨rfl, nb_refl _⟩
  · have h2 : decide (x ≠ 0) = true := decide_eq_true h1
    rw [h2]
    clear h2
    go_enter Tryz.func89, Tryz.ntmps89
    go_wp2_with fail
    go_ret
    exact ⟨by simp [h1], nb_refl _⟩
theorem call_great (x : Value) (W : World) : Sem.run Tryz.prog (callFunc 79 #[x]) W = .ok (.enter 79 #[x]) W := by simp [go_sem, Tryz.func79]
theorem call_nonzero (x : Value) (W : World) : Sem.run Tryz.prog (callFunc 89 #[x]) W = .ok (.enter 89 #[x]) W := by simp [go_sem, Tryz.func89]
end Go.Proofs.YtmfkpmepgbjmkaaGreatDoor

namespace Go.Proofs.YtmfkpmepgbjmkaaGreatDoor
open Go.RowKit

instance (xs : List Int) : Decidable (Lim xs) := by unfold Lim; infer_instance
def chkRows (n : Nat) : List (List Int) → Int
  | [] => 0
  | r :: rs => if 12 < r.length then 4 else if r.length ≠ n then 5 else if Lim r then chkRows n rs else 4
/-- The first error of a matrix. -/
def chkM (M : List (List Int)) : Int := if 12 < M.length then 4 else chkRows (M.getD 0 []).length M
structure Right (n : Nat) (M : List (List Int)) : Prop where
  len : M.length ≤ 12
  cols : n ≤ 12
  row : ∀ r ∈ M, r.length = n
  lim : ∀ r ∈ M, Lim r
theorem chkRows_zero {n : Nat} {M : List (List Int)} : chkRows n M = 0 ↔ ∀ r ∈ M, r.length ≤ 12 ∧ r.length = n ∧ Lim r := by
  induction M with
  | nil => simp [chkRows]
  | cons r rs ih =>
    unfold chkRows
    constructor
    · intro h
      by_cases h1 : 12 < r.length
      · rw [if_pos h1] at h; cases h
      · rw [if_neg h1] at h
        by_cases h2 : r.length ≠ n
        · rw [if_pos h2] at h; cases h
        · rw [if_neg h2] at h
          by_cases h3 : Lim r
          · rw [if_pos h3] at h
            intro q hq
            rcases List.mem_cons.1 hq with rfl | hq
            · exact ⟨by omega, by omega, h3⟩
            · exact ih.1 h q hq
          · rw [if_neg h3] at h; cases h
    · intro h
      have h1 := h r (List.mem_cons_self ..)
      rw [if_neg (by omega), if_neg (by omega), if_pos h1.2.2]
      exact ih.2 (fun q hq => h q (List.mem_cons_of_mem _ hq))
theorem chkM_zero {M : List (List Int)} (h : chkM M = 0) : Right (M.getD 0 []).length M := by
  unfold chkM at h
  by_cases h1 : 12 < M.length
  · rw [if_pos h1] at h; cases h
  · rw [if_neg h1] at h
    have h2 := chkRows_zero.1 h
    refine ⟨by omega, ?_, fun r hr => (h2 r hr).2.1, fun r hr => (h2 r hr).2.2⟩
    cases M with
    | nil => exact Nat.zero_le _
    | cons r rs => exact (h2 r (List.mem_cons_self ..)).1
theorem Right.chk {n : Nat} {M : List (List Int)} (h : Right n M) : chkM M = 0 := by
  unfold chkM
  rw [if_neg (by have := h.len; omega), chkRows_zero]
  intro r hr
  refine ⟨by rw [h.row r hr]; exact h.cols, ?_, h.lim r hr⟩
  cases M with
  | nil => cases hr
  | cons q qs => rw [h.row r hr]; exact (h.row q (List.mem_cons_self ..)).symm
theorem lim_not (xs : List Int) : (∃ i, i < xs.length ∧ decide (xs.getD i 0 < -1000000000 ∨ 1000000000 < xs.getD i 0) = true) ↔ ¬ Lim xs := by
  constructor
  · rintro ⟨i, hi, h⟩ hl
    have h1 := hl _ (getD_mem 0 hi)
    have := of_decide_eq_true h
    omega
  · intro h
    apply Classical.byContradiction
    intro h2
    apply h
    intro x hx
    obtain ⟨i, hi, rfl⟩ := List.mem_iff_getElem.1 hx
    have h3 : ¬ (xs.getD i 0 < -1000000000 ∨ 1000000000 < xs.getD i 0) := fun h4 => h2 ⟨i, hi, decide_eq_true h4⟩
    rw [List.getD_eq_getElem?_getD, List.getElem?_eq_getElem hi] at h3
    have h4 : ¬ (xs[i] < -1000000000 ∨ 1000000000 < xs[i]) := h3
    omega

theorem greats_any (w : World) (v : Value) (xs : List Int) (h : RowAt w v xs) :
    Calls Tryz.prog 78 #[v, .func (.func 79) #[] #[]] w fun e w' => e = .returned (.bool (decide (¬ Lim xs))) ∧ Below w.heap.size w w' := by
  refine (containsRow_any w 79 v xs (fun i => decide (xs.getD i 0 < -1000000000 ∨ 1000000000 < xs.getD i 0)) h call_great (fun i W _ _ => great_any _ (I64.getD h.i64 i) W)).mono ?_
  rintro e w' ⟨he, hb⟩
  refine ⟨?_, hb⟩
  rw [he]
  congr 2
  rw [decide_eq_decide]
  exact lim_not xs

set_option maxRecDepth 100000 in
set_option maxHeartbeats 1600000 in
theorem check_any (w : World) (v : Value) (M : List (List Int)) (h : MatAt w v M) :
    Calls Tryz.prog 45 #[v] w fun e w' => e = .returned (.int .i64 (chkM M)) ∧ Below w.heap.size w w' := by
  obtain ⟨p, c, rfl, hc, hmax, hcell⟩ := h
  obtain ⟨m, hm⟩ : ∃ m, m = M.length := ⟨_, rfl⟩
  have HM := Lib.hid hm.symm
  rw [← hm] at hc hmax hcell ⊢
  have HC := Lib.hid hcell
  clear hcell hm
  by_cases hbig : 12 < m
  · have e : Hid (chkM M = 4) := Lib.hid (by unfold chkM; rw [if_pos (by rw [HM.out]; exact hbig)])
    go_enter Tryz.func45, Tryz.ntmps45
    go_wp2_with fail
    go_ret
    exact ⟨by rw [e.out]; rfl, nb_refl _⟩
  · have e : Hid (chkM M = chkRows (M.getD 0 []).length (M.drop 0)) := Lib.hid (by unfold chkM; rw [if_neg (by rw [HM.out]; exact hbig)]; rfl)
    go_enter Tryz.func45, Tryz.ntmps45
    go_wp2_with fail
    go_loopw [10] (fun s10 wr => ∃ i : Nat, i ≤ m ∧ s10 = .int .i64 i ∧ Hid (chkM M = chkRows (M.getD 0 []).length (M.drop i)) ∧ Below w.heap.size w wr) (fun s10 _ => m - (intOf s10).toNat)
    case atStart => exact ⟨0, Nat.zero_le _, rfl, e, nb_refl _⟩
    case round =>
      clear e
      obtain ⟨i, hi, rfl, he, hb⟩ := hrel
      by_cases him : i < m
      · obtain ⟨b, o, u, rfl, hu, hr⟩ := HC.out i him
        obtain ⟨b', o', u0, hpe, hu0, hr0⟩ := HC.out 0 (by omega)
        cases hpe
        obtain ⟨pr, cr, rfl, hlr, hmr⟩ := hr.slice_
        obtain ⟨p0, c0, rfl, -, -⟩ := hr0.slice_
        rw [Nat.add_zero] at hu0
        have HG := Lib.hid (fun W (hW : Below w.heap.size w W) => greats_any W _ _ (hr.nb hW))
        have hu' := cellB hb hu
        have hu0' := cellB hb hu0
        have ed : M.drop i = M.getD i [] :: M.drop (i + 1) := by
          rw [List.drop_eq_getElem_cons (by rw [HM.out]; exact him), List.getD_eq_getElem?_getD, List.getElem?_eq_getElem (by rw [HM.out]; exact him)]; rfl
        have he' := he.out
        rw [ed] at he'
        obtain ⟨xr, hxr⟩ : ∃ xr, xr = M.getD i [] := ⟨_, rfl⟩
        obtain ⟨x0, hx0⟩ : ∃ xr, xr = M.getD 0 [] := ⟨_, rfl⟩
        rw [← hxr] at he' hu' HG hlr hmr
        rw [← hx0] at he' hu0'
        unfold chkRows at he'
        obtain ⟨ln, hln⟩ : ∃ l, l = xr.length := ⟨_, rfl⟩
        obtain ⟨l0, hl0⟩ : ∃ l, l = x0.length := ⟨_, rfl⟩
        rw [← hln] at he' hu' HG hlr hmr
        rw [← hl0] at he' hu0'
        have HX := Lib.hid hx0
        have HL := Lib.hid hl0
        clear hxr hx0 hln hl0 hu hu0 hr hr0 he ed
        by_cases h1 : 12 < ln
        · rw [if_pos h1] at he'
          have HE := Lib.hid he'
          clear he'
          go_wp2_with fail
          go_ret
          exact ⟨by rw [HE.out]; rfl, hb⟩
        · rw [if_neg h1] at he'
          by_cases h2 : ln ≠ l0
          · rw [if_pos h2] at he'
            have HE := Lib.hid he'
            have h3 : ((ln : Int) != (l0 : Int)) = true := by rw [bne_iff_ne]; omega
            clear he' h2
            go_wp2_with fail
            go_ret
            exact ⟨by rw [HE.out]; rfl, hb⟩
          · rw [if_neg h2] at he'
            obtain rfl : ln = l0 := by omega
            by_cases h3 : Lim xr
            · rw [if_pos h3] at he'
              rw [show decide (¬ Lim xr) = false from decide_eq_false (fun h => h h3)] at HG
              rw [HL.out, HX.out] at he'
              have HE := Lib.hid he'
              clear he' h2 h3
              go_wp2_with (go_at_call 78; refine (HG.out _ hb).mono ?_; rintro e w1 ⟨rfl, hb1⟩)
              go_roundw
              case rel => exact ⟨i + 1, by omega, by go_num, HE, hb.trans (hb1.mono hb.size)⟩
              case measure => (simp [intOf]) <;> omega
            · rw [if_neg h3] at he'
              rw [show decide (¬ Lim xr) = true from decide_eq_true h3] at HG
              have HE := Lib.hid he'
              clear he' h2 h3
              go_wp2_with (go_at_call 78; refine (HG.out _ hb).mono ?_; rintro e w1 ⟨rfl, hb1⟩)
              go_ret
              exact ⟨by rw [HE.out]; rfl, hb.trans (hb1.mono hb.size)⟩
      · obtain rfl : i = m := by omega
        have HE := Lib.hid he.out
        clear he
        go_wp2_with fail
        go_ret
        refine ⟨?_, hb⟩
        have h := HE.out
        rw [List.drop_eq_nil_of_le (by rw [HM.out]; exact Nat.le_refl _)] at h
        rw [h]
        rfl
/-- The number of columns. -/
theorem columns_any (w : World) (v : Value) (M : List (List Int)) (h : MatAt w v M) :
    Calls Tryz.prog 48 #[v] w fun e w' => e = .returned (.int .i64 (M.getD 0 []).length) ∧ Below w.heap.size w w' := by
  by_cases h0 : 0 < M.length
  · obtain ⟨b, o, c, rfl, hc, hcell⟩ := h.open_ h0
    obtain ⟨u, hu, hr⟩ := hcell 0 h0
    obtain ⟨pr, cr, rfl, -, -⟩ := hr.slice_
    rw [Nat.add_zero] at hu
    have h1 : ((M.length : Int) == 0) = false := by rw [beq_eq_false_iff_ne]; omega
    obtain ⟨m, hm⟩ : ∃ m, m = M.length := ⟨_, rfl⟩
    obtain ⟨l, hl⟩ : ∃ l, l = (M.getD 0 []).length := ⟨_, rfl⟩
    rw [← hm] at h0 h1 hc ⊢
    rw [← hl] at hu ⊢
    clear hm hl hcell hr
    go_enter Tryz.func48, Tryz.ntmps48
    go_wp2_with fail
    go_ret
    exact ⟨rfl, nb_refl _⟩
  · have hn : M = [] := List.eq_nil_of_length_eq_zero (by omega)
    subst hn
    obtain ⟨p, c, rfl, -, -⟩ := h.slice_
    go_enter Tryz.func48, Tryz.ntmps48
    go_wp2_with fail
    go_ret
    exact ⟨rfl, nb_refl _⟩
end Go.Proofs.YtmfkpmepgbjmkaaGreatDoor

namespace Go.Proofs.YtmfkpmepgbjmkaaGreatDoor
open Go.RowKit

set_option maxRecDepth 100000 in
theorem indexMat_any (w : World) (f : FuncId) (caps : Array Value) (v : Value) (M : List (List Int)) (P : Nat → Bool) (h : MatAt w v M) (hcall : ∀ x W, Sem.run Tryz.prog (callFunc f (#[x] ++ caps)) W = .ok (.enter f (#[x] ++ caps)) W)
    (hf : ∀ i W u, i < M.length → Below w.heap.size w W → RowAt W u (M.getD i []) → Calls Tryz.prog f (#[u] ++ caps) W fun e w' => e = .returned (.bool (P i)) ∧ Below W.heap.size W w') :
    Calls Tryz.prog 128 #[v, .func (.func f) #[] caps] w fun e w' => ∃ r, firstAt P M.length r ∧ e = .returned (.int .i64 r) ∧ Below w.heap.size w w' := by
  obtain ⟨p, c, rfl, hc, hmax, hcell⟩ := h
  obtain ⟨n, hnl⟩ : ∃ n, n = M.length := ⟨_, rfl⟩
  rw [← hnl] at hc hmax hcell hf ⊢
  have HC := Lib.hid hcell
  have HF := Lib.hid hf
  clear hcell hf hnl
  go_enter Tryz.func128, Tryz.ntmps128
  go_wp2_with fail
  go_loopw [8] (fun s8 wr => ∃ i : Nat, i ≤ n ∧ s8 = .int .i64 i ∧ Hid (∀ j, j < i → P j = false) ∧ Below w.heap.size w wr) (fun s8 _ => n - (intOf s8).toNat)
  case atStart => exact ⟨0, Nat.zero_le _, rfl, (fun j hj => by omega), nb_refl _⟩
  case round =>
    obtain ⟨i, hi, rfl, hp, hb⟩ := hrel
    by_cases hin : i < n
    · obtain ⟨b, o, u, rfl, hcl, hru⟩ := HC.out i hin
      have hcl' := cellB hb hcl
      have FI := Lib.hid (HF.out i wr u hin hb (hru.nb hb))
      clear hcl hru
      cases hpi : P i with
      | true =>
        rw [hpi] at FI
        have HPI := Lib.hid hpi
        clear hpi
        go_wp2_with (with_reducible refine FI.out.mono ?_; rintro e w1 ⟨rfl, hb1⟩)
        go_ret
        exact ⟨i, .inr ⟨by omega, by omega, by rw [Int.toNat_natCast]; exact HPI.out, by rw [Int.toNat_natCast]; exact hp.out⟩, rfl, hb.trans (hb1.mono hb.size)⟩
      | false =>
        rw [hpi] at FI
        have HPI := Lib.hid hpi
        clear hpi
        have HP' : Hid (∀ j, j < i + 1 → P j = false) := Lib.hid (fun j hj => by
          rcases Nat.lt_or_eq_of_le (Nat.le_of_lt_succ hj) with h | rfl
          · exact hp.out j h
          · exact HPI.out)
        go_wp2_with (with_reducible refine FI.out.mono ?_; rintro e w1 ⟨rfl, hb1⟩)
        go_roundw
        case rel => exact ⟨i + 1, by omega, by go_num, HP', hb.trans (hb1.mono hb.size)⟩
        case measure => (simp [intOf]) <;> omega
    · obtain rfl : i = n := by omega
      go_wp2_with fail
      go_ret
      exact ⟨-1, .inl ⟨rfl, hp.out⟩, rfl, hb⟩
theorem firstAt_ge {P : Nat → Bool} {n : Nat} {r : Int} (hr : firstAt P n r) : decide (r ≥ 0) = decide (∃ i, i < n ∧ P i = true) := by
  rw [decide_eq_decide]
  rcases hr with ⟨rfl, h⟩ | ⟨h0, h1, h2, h3⟩
  · constructor
    · intro h; omega
    · rintro ⟨i, hi, hp⟩; rw [h i hi] at hp; cases hp
  · exact ⟨fun _ => ⟨r.toNat, by omega, h2⟩, fun _ => h0⟩
set_option maxRecDepth 100000 in
theorem containsMat_any (w : World) (f : FuncId) (caps : Array Value) (v : Value) (M : List (List Int)) (P : Nat → Bool) (h : MatAt w v M) (hcall : ∀ x W, Sem.run Tryz.prog (callFunc f (#[x] ++ caps)) W = .ok (.enter f (#[x] ++ caps)) W)
    (hf : ∀ i W u, i < M.length → Below w.heap.size w W → RowAt W u (M.getD i []) → Calls Tryz.prog f (#[u] ++ caps) W fun e w' => e = .returned (.bool (P i)) ∧ Below W.heap.size W w') :
    Calls Tryz.prog 86 #[v, .func (.func f) #[] caps] w fun e w' => e = .returned (.bool (decide (∃ i, i < M.length ∧ P i = true))) ∧ Below w.heap.size w w' := by
  have IX := Lib.hid (indexMat_any w f caps v M P h hcall hf)
  have HR : Hid (∀ r, firstAt P M.length r → decide (r ≥ 0) = decide (∃ i, i < M.length ∧ P i = true)) := Lib.hid (fun r => firstAt_ge)
  clear h hf hcall
  obtain ⟨B, hB⟩ : ∃ B, B = decide (∃ i, i < M.length ∧ P i = true) := ⟨_, rfl⟩
  rw [← hB] at HR ⊢
  clear hB
  go_enter Tryz.func86, Tryz.ntmps86
  go_wp2_with (go_at_call 128; refine IX.out.mono ?_; rintro e w1 ⟨r, hr, rfl, hb1⟩)
  go_ret
  exact ⟨by rw [← HR.out r hr]; (first | rfl | (congr 1; simp)), hb1⟩

/-! ### pivot -/
def pv (r : List Int) : Int := if r.findIdx (fun x => decide (x ≠ 0)) < r.length then (r.findIdx (fun x => decide (x ≠ 0)) : Int) else -1
theorem firstAt_unique {P : Nat → Bool} {n : Nat} {r r' : Int} (h : firstAt P n r) (h' : firstAt P n r') : r = r' := by
  rcases h with ⟨rfl, h⟩ | ⟨h0, h1, h2, h3⟩ <;> rcases h' with ⟨rfl, h'⟩ | ⟨g0, g1, g2, g3⟩
  · rfl
  · rw [h r'.toNat (by omega)] at g2; cases g2
  · rw [h' r.toNat (by omega)] at h2; cases h2
  · rcases Nat.lt_trichotomy r.toNat r'.toNat with h | h | h
    · rw [g3 _ h] at h2; cases h2
    · omega
    · rw [h3 _ h] at g2; cases g2
theorem pv_first (r : List Int) : firstAt (fun i => decide (r.getD i 0 ≠ 0)) r.length (pv r) := by
  have key : ∀ i, i < r.findIdx (fun x => decide (x ≠ 0)) → i < r.length → decide (r.getD i 0 ≠ 0) = false := by
    intro i hi hl
    have := List.not_of_lt_findIdx hi
    rw [List.getD_eq_getElem?_getD, List.getElem?_eq_getElem hl]
    simpa using this
  unfold pv
  by_cases h : r.findIdx (fun x => decide (x ≠ 0)) < r.length
  · rw [if_pos h]
    refine .inr ⟨by omega, by omega, ?_, fun i hi => ?_⟩
    · have := List.findIdx_getElem (w := h)
      rw [Int.toNat_natCast]
      show decide (r.getD (r.findIdx (fun x => decide (x ≠ 0))) 0 ≠ 0) = true
      rw [List.getD_eq_getElem?_getD, List.getElem?_eq_getElem h]
      exact this
    · rw [Int.toNat_natCast] at hi
      exact key i hi (by omega)
  · rw [if_neg h]
    exact .inl ⟨rfl, fun i hi => key i (by omega) hi⟩
theorem pv_spec (r : List Int) : (pv r = -1 ∧ ∀ i, i < r.length → r.getD i 0 = 0) ∨ (0 ≤ pv r ∧ pv r < r.length ∧ r.getD (pv r).toNat 0 ≠ 0 ∧ ∀ i, i < (pv r).toNat → r.getD i 0 = 0) := by
  rcases pv_first r with ⟨h, h1⟩ | ⟨h0, h1, h2, h3⟩
  · exact .inl ⟨h, fun i hi => by have := h1 i hi; simpa using this⟩
  · exact .inr ⟨h0, h1, of_decide_eq_true h2, fun i hi => by have := h3 i hi; simpa using this⟩

set_option maxRecDepth 100000 in
theorem pivot_any (w : World) (v : Value) (xs : List Int) (h : RowAt w v xs) :
    Calls Tryz.prog 52 #[v] w fun e w' => e = .returned (.int .i64 (pv xs)) ∧ Below w.heap.size w w' := by
  have IX := Lib.hid (indexRow_any w 89 v xs (fun i => decide (xs.getD i 0 ≠ 0)) h call_nonzero (fun i W _ _ => nonzero_any _ (I64.getD h.i64 i) W))
  have HF : Hid (∀ r, firstAt (fun i => decide (xs.getD i 0 ≠ 0)) xs.length r → r = pv xs) := Lib.hid (fun r hr => firstAt_unique hr (pv_first xs))
  clear h
  obtain ⟨z, hz⟩ : ∃ z, z = pv xs := ⟨_, rfl⟩
  rw [← hz] at HF ⊢
  clear hz
  go_enter Tryz.func52, Tryz.ntmps52
  go_wp2_with (go_at_call 88; refine IX.out.mono ?_; rintro e w1 ⟨r, hr, rfl, hb1⟩)
  go_ret
  exact ⟨by rw [← HF.out r hr]; rfl, hb1⟩
end Go.Proofs.YtmfkpmepgbjmkaaGreatDoor

namespace Go.Proofs.YtmfkpmepgbjmkaaGreatDoor
open Go.RowKit

/-- x does not fit above the row r with its pivot at p. -/
def unfit (p : Nat) (r x : List Int) : Bool := decide (x.getD p 0 < 0) || decide (r.getD p 0 ≤ x.getD p 0)
def isFm : List (List Int) → Int → List (List Int) → Bool
  | _, _, [] => true
  | D, b, r :: rs => if pv r ≤ b then false else if r.getD (pv r).toNat 0 < 0 then false else if ∃ i, i < D.length ∧ unfit (pv r).toNat r (D.getD i []) = true then false else isFm (D ++ [r]) (pv r) rs
def isFormB (M : List (List Int)) : Bool := isFm [] (-1) M
theorem isFm_cons (D : List (List Int)) (b : Int) (r : List Int) (rs : List (List Int)) : isFm D b (r :: rs) = if pv r ≤ b then false else if r.getD (pv r).toNat 0 < 0 then false else if ∃ i, i < D.length ∧ unfit (pv r).toNat r (D.getD i []) = true then false else isFm (D ++ [r]) (pv r) rs := rfl

theorem MatAt.take {w : World} {p : Option Addr} {n c : Nat} {M : List (List Int)} (h : MatAt w (.slice p n c) M) {i : Nat} (hi : i ≤ M.length) : MatAt w (.slice p i c) (M.take i) := by
  obtain ⟨p', c', hv, h1, h2, h4⟩ := h
  cases hv
  refine ⟨p, c, by rw [List.length_take, Nat.min_eq_left hi], by rw [List.length_take]; omega, by rw [List.length_take]; omega, fun j hj => ?_⟩
  rw [List.length_take] at hj
  obtain ⟨b, o, u, e, hc, hr⟩ := h4 j (by omega)
  refine ⟨b, o, u, e, hc, ?_⟩
  rw [List.getD_eq_getElem?_getD, List.getElem?_take_of_lt (by omega), ← List.getD_eq_getElem?_getD]
  exact hr

set_option maxRecDepth 100000 in
set_option maxHeartbeats 1600000 in
theorem unfit_any (w : World) (v u : Value) (pb rb p : Nat) (x r : List Int) (hx : RowAt w v x) (hr : RowAt w u r) (hpb : w.cell? ⟨pb, 0, none⟩ = some (.int .i64 p)) (hrb : w.cell? ⟨rb, 0, none⟩ = some u) (hp1 : p < x.length) (hp2 : p < r.length) :
    Calls Tryz.prog 98 #[v, .pointer (some ⟨pb, 0, none⟩), .pointer (some ⟨rb, 0, none⟩)] w fun e w' => e = .returned (.bool (unfit p r x)) ∧ Below w.heap.size w w' := by
  obtain ⟨b1, o1, c1, rfl, -, h1⟩ := hx.open_ (by omega)
  obtain ⟨b2, o2, c2, rfl, -, h2⟩ := hr.open_ (by omega)
  have k1 := h1 p hp1
  have k2 := h2 p hp2
  obtain ⟨X, hX⟩ : ∃ X, X = x.getD p 0 := ⟨_, rfl⟩
  obtain ⟨R, hR⟩ : ∃ X, X = r.getD p 0 := ⟨_, rfl⟩
  obtain ⟨U, hU⟩ : ∃ U, U = unfit p r x := ⟨_, rfl⟩
  have HU : Hid (U = (decide (X < 0) || decide (R ≤ X))) := Lib.hid (by rw [hU, hX, hR]; rfl)
  obtain ⟨l1, hl1⟩ : ∃ l, l = x.length := ⟨_, rfl⟩
  obtain ⟨l2, hl2⟩ : ∃ l, l = r.length := ⟨_, rfl⟩
  rw [← hX] at k1
  rw [← hR] at k2
  rw [← hU]
  rw [← hl1] at hp1 ⊢
  rw [← hl2] at hp2 hrb
  clear h1 h2 hX hR hU hl1 hl2 hx hr
  have i1 : (p : Int) < (l1 : Int) := by omega
  have i2 : (p : Int) < (l2 : Int) := by omega
  have i3 : (0 : Int) ≤ (p : Int) := by omega
  by_cases hx0 : X < 0
  · have e : U = true := by rw [HU.out, decide_eq_true hx0]; rfl
    subst e
    have hd : decide (X < 0) = true := decide_eq_true hx0
    clear HU
    go_enter Tryz.func98, Tryz.ntmps98
    go_wp2_with fail
    go_quiet (fail)
    go_wp2_with fail
    go_ret
    exact ⟨rfl, nb_drewN _ _⟩
  · have hd : decide (X < 0) = false := decide_eq_false hx0
    have e : U = decide (R ≤ X) := by rw [HU.out, hd]; rfl
    subst e
    clear HU
    go_enter Tryz.func98, Tryz.ntmps98
    go_wp2_with fail
    go_quiet (fail)
    go_wp2_with fail
    go_ret
    exact ⟨rfl, nb_drewN _ _⟩
theorem call_unfit (x a b : Value) (W : World) : Sem.run Tryz.prog (callFunc 98 (#[x] ++ #[a, b])) W = .ok (.enter 98 (#[x] ++ #[a, b])) W := by simp [go_sem, Tryz.func98]

theorem alloc_one (w : World) (a : Value) (t : TypeId) : (w.alloc (.cells #[a] t)).cell? ⟨w.heap.size, 0, none⟩ = some a := cell_one_new w a t 0 a rfl
theorem pre_b {w wr w1 : World} {o : Obj} (hb : Below w.heap.size w wr) (hbx : Below wr.heap.size wr w1) : Below w.heap.size w (w1.alloc o) :=
  (hb.trans (hbx.mono hb.size)).trans ((nb_alloc _ _).mono (hb.trans (hbx.mono hb.size)).size)
set_option maxRecDepth 100000 in
set_option maxHeartbeats 1600000 in
theorem isForm_any (w : World) (v : Value) (M : List (List Int)) (n : Nat) (h : MatAt w v M) (hn : ∀ r ∈ M, r.length = n) (hn1 : n ≤ 1000) :
    Calls Tryz.prog 57 #[v] w fun e w' => e = .returned (.bool (isFormB M)) ∧ Below w.heap.size w w' := by
  have HMA := Lib.hid h
  obtain ⟨p, c, rfl, hc, hmax, hcell⟩ := h
  obtain ⟨m, hm⟩ : ∃ m, m = M.length := ⟨_, rfl⟩
  have HM := Lib.hid hm.symm
  rw [← hm] at hc hmax hcell HMA ⊢
  have HC := Lib.hid hcell
  have HN := Lib.hid hn
  clear hcell hm hn
  go_enter Tryz.func57, Tryz.ntmps57
  go_wp2_with fail
  go_loopw [3, 9] (fun s3 s9 wr => ∃ (i : Nat) (b : Int), i ≤ m ∧ s3 = .int .i64 b ∧ s9 = .int .i64 i ∧ -1 ≤ b ∧ Hid (isFormB M = isFm (M.take i) b (M.drop i)) ∧ Below w.heap.size w wr) (fun _ s9 _ => m - (intOf s9).toNat)
  case atStart => exact ⟨0, -1, Nat.zero_le _, rfl, rfl, by omega, rfl, nb_refl _⟩
  case round =>
    obtain ⟨i, b, hi, rfl, rfl, hb1, he, hb⟩ := hrel
    by_cases him : i < m
    · obtain ⟨bb, o, u, rfl, hu, hr⟩ := HC.out i him
      have hu' := cellB hb hu
      have ed : M.drop i = M.getD i [] :: M.drop (i + 1) := by
        rw [List.drop_eq_getElem_cons (by rw [HM.out]; exact him), List.getD_eq_getElem?_getD, List.getElem?_eq_getElem (by rw [HM.out]; exact him)]; rfl
      have et : M.take i ++ [M.getD i []] = M.take (i + 1) := by
        rw [List.take_succ_eq_append_getElem (by rw [HM.out]; exact him), List.getD_eq_getElem?_getD, List.getElem?_eq_getElem (by rw [HM.out]; exact him)]; rfl
      have he' := he.out
      rw [ed, isFm_cons, et] at he'
      have hlen := HN.out _ (getD_mem [] (by rw [HM.out]; exact him))
      obtain ⟨r, hrr⟩ : ∃ r, r = M.getD i [] := ⟨_, rfl⟩
      rw [← hrr] at he' hlen hr
      clear hrr ed et hu he
      have PV := Lib.hid (fun W (hW : Below w.heap.size w W) => pivot_any W u r (hr.nb hW))
      have HPS := Lib.hid (pv_spec r)
      obtain ⟨pr, cr, rfl, hcr, -⟩ := hr.slice_
      have hrO := hr.open_
      rw [hlen] at hcr hu' hrO PV
      have HRO := Lib.hid hrO
      have HLEN := Lib.hid hlen
      have HR := Lib.hid hr
      rw [hlen] at HR
      obtain ⟨z, hz⟩ : ∃ z, z = pv r := ⟨_, rfl⟩
      rw [← hz] at PV HPS he'
      clear hz hrO hlen hr
      by_cases hzb : z ≤ b
      · rw [if_pos hzb] at he'
        have HE := Lib.hid he'
        have hd : decide (z ≤ b) = true := decide_eq_true hzb
        clear he'
        go_wp2_with (go_at_call 52; refine (PV.out _ (hb.trans ((nb_alloc wr _).mono hb.size))).mono ?_; rintro e w1 ⟨rfl, hb2⟩; have hbx := nb_trans (nb_alloc wr _) hb2)
        go_ret
        exact ⟨by rw [HE.out]; rfl, (hb.trans (hbx.mono hb.size)).trans ((nb_alloc _ _).mono (hb.trans (hbx.mono hb.size)).size)⟩
      · rw [if_neg hzb] at he'
        have hz0 : 0 ≤ z := by omega
        obtain ⟨pn, rfl⟩ : ∃ pn : Nat, z = pn := ⟨z.toNat, by omega⟩
        have hpn : pn < n := by
          rcases HPS.out with ⟨h, _⟩ | ⟨_, h, _⟩
          · omega
          · rw [HLEN.out] at h; omega
        obtain ⟨b2, o2, c2, hpe, -, hcellr⟩ := HRO.out (by omega)
        cases hpe
        have hk := cellB hb (hcellr pn hpn)
        rw [Int.toNat_natCast] at he'
        obtain ⟨y, hy⟩ : ∃ y, y = r.getD pn 0 := ⟨_, rfl⟩
        have HY := Lib.hid hy
        rw [← hy] at hk he'
        have hd : decide ((pn : Int) ≤ b) = false := decide_eq_false hzb
        have i1 : (pn : Int) < (n : Int) := by omega
        have i2 : (0 : Int) ≤ (pn : Int) := by omega
        clear hcellr hy hz0
        by_cases hy0 : y < 0
        · rw [if_pos hy0] at he'
          have HE := Lib.hid he'
          clear he'
          go_wp2_with (go_at_call 52; refine (PV.out _ (hb.trans ((nb_alloc wr _).mono hb.size))).mono ?_; rintro e w1 ⟨rfl, hb2⟩; have hbx := nb_trans (nb_alloc wr _) hb2; have q1 : w1.cell? ⟨wr.heap.size, 0, none⟩ = some (.slice (some ⟨b2, o2, none⟩) n cr) := cellB hb2 (alloc_one _ _ _); have q2 := cellB hbx hk; have q3 := fun (o : Obj) => cellB (nb_alloc w1 o) q1; have q4 := fun (o : Obj) => cellB (nb_alloc w1 o) q2)
          go_ret
          exact ⟨by rw [HE.out]; rfl, (hb.trans (hbx.mono hb.size)).trans ((nb_alloc _ _).mono (hb.trans (hbx.mono hb.size)).size)⟩
        · rw [if_neg hy0] at he'
          have hd2 : decide (y < 0) = false := decide_eq_false hy0
          have CM : Hid (∀ (W : World) (pb rb : Nat), Below w.heap.size w W → W.cell? ⟨pb, 0, none⟩ = some (.int .i64 pn) → W.cell? ⟨rb, 0, none⟩ = some (.slice (some ⟨b2, o2, none⟩) n cr) →
              Calls Tryz.prog 86 #[.slice (some ⟨bb, o, none⟩) i c, .func (.func 98) #[] #[.pointer (some ⟨pb, 0, none⟩), .pointer (some ⟨rb, 0, none⟩)]] W fun e w' => e = .returned (.bool (decide (∃ j, j < (M.take i).length ∧ unfit pn r ((M.take i).getD j []) = true))) ∧ Below W.heap.size W w') := Lib.hid (by
            intro W pb rb hW h1 h2
            have hmt := (HMA.out.nb hW).take (i := i) (by rw [HM.out]; exact hi)
            refine containsMat_any W 98 #[.pointer (some ⟨pb, 0, none⟩), .pointer (some ⟨rb, 0, none⟩)] _ (M.take i) (fun j => unfit pn r ((M.take i).getD j [])) hmt (fun x W => call_unfit x _ _ W) ?_
            intro j W' u' hj hW' hu'
            have hlx : ((M.take i).getD j []).length = n := HN.out _ (List.mem_of_mem_take (getD_mem [] hj))
            exact unfit_any W' u' (.slice (some ⟨b2, o2, none⟩) n cr) pb rb pn _ r hu' (HR.out.nb (hW.trans (hW'.mono hW.size))) (cellB hW' h1) (cellB hW' h2) (by rw [hlx]; exact hpn) (by rw [HLEN.out]; exact hpn))
          obtain ⟨T, hT⟩ : ∃ T, T = decide (∃ j, j < (M.take i).length ∧ unfit pn r ((M.take i).getD j []) = true) := ⟨_, rfl⟩
          rw [← hT] at CM
          have i3 : (i : Int) ≤ (c : Int) := by omega
          cases T with
          | true =>
            have h2 := of_decide_eq_true hT.symm
            rw [if_pos h2] at he'
            have HE := Lib.hid he'
            clear he' hT h2
            go_wp2_with (first
              | (go_at_call 52; refine (PV.out _ (hb.trans ((nb_alloc wr _).mono hb.size))).mono ?_; rintro e w1 ⟨rfl, hb2⟩; have hbx := nb_trans (nb_alloc wr _) hb2; have q1 : w1.cell? ⟨wr.heap.size, 0, none⟩ = some (.slice (some ⟨b2, o2, none⟩) n cr) := cellB hb2 (alloc_one _ _ _); have q2 := cellB hbx hk; have q3 := fun (o : Obj) => cellB (nb_alloc w1 o) q1; have q4 := fun (o : Obj) => cellB (nb_alloc w1 o) q2)
              | (go_at_call 86; refine (CM.out _ w1.heap.size wr.heap.size (pre_b hb hbx) (alloc_one _ _ _) (q3 _)).mono ?_; rintro e w2 ⟨rfl, hb3⟩))
            go_ret
            exact ⟨by rw [HE.out]; rfl, (pre_b hb hbx).trans (hb3.mono (pre_b hb hbx).size)⟩
          | false =>
            have h2 := of_decide_eq_false hT.symm
            rw [if_neg h2] at he'
            have HE := Lib.hid he'
            clear he' hT h2
            go_wp2_with (first
              | (go_at_call 52; refine (PV.out _ (hb.trans ((nb_alloc wr _).mono hb.size))).mono ?_; rintro e w1 ⟨rfl, hb2⟩; have hbx := nb_trans (nb_alloc wr _) hb2; have q1 : w1.cell? ⟨wr.heap.size, 0, none⟩ = some (.slice (some ⟨b2, o2, none⟩) n cr) := cellB hb2 (alloc_one _ _ _); have q2 := cellB hbx hk; have q3 := fun (o : Obj) => cellB (nb_alloc w1 o) q1; have q4 := fun (o : Obj) => cellB (nb_alloc w1 o) q2)
              | (go_at_call 86; refine (CM.out _ w1.heap.size wr.heap.size (pre_b hb hbx) (alloc_one _ _ _) (q3 _)).mono ?_; rintro e w2 ⟨rfl, hb3⟩; have q5 : w2.cell? ⟨w1.heap.size, 0, none⟩ = some (.int .i64 pn) := cellB hb3 (alloc_one _ _ _)))
            have HB4 := (pre_b hb hbx).trans (hb3.mono (pre_b hb hbx).size)
            clear hbx hb3 hb2 hb
            go_wp2_with fail
            go_roundw
            case rel => exact ⟨i + 1, pn, by omega, by go_num, by go_num, by omega, HE, HB4⟩
            case measure => (simp [intOf]) <;> omega
    · obtain rfl : i = m := by omega
      have HE := Lib.hid he.out
      clear he
      go_wp2_with fail
      go_ret
      refine ⟨?_, hb⟩
      have h := HE.out
      rw [List.drop_eq_nil_of_le (by rw [HM.out]; exact Nat.le_refl _)] at h
      rw [h]
      rfl
end Go.Proofs.YtmfkpmepgbjmkaaGreatDoor
