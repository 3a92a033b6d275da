/-
  WALKS: hermite's reduce in all cases, open, contains, Contains, Reduce.
  WALKS: hermite's open, contains, Contains, Reduce.
  WALKS: hermite's Reduce, Contains, pair, includes, Includes.
  WALKS: hermite's pair, includes, Includes.
-/
import Derived.Test.YtmfkpmepgbjmkaaGreatDoorG4
set_option linter.unusedVariables false
set_option linter.unusedSimpArgs false
namespace Go.Proofs.YtmfkpmepgbjmkaaGreatDoor
open Go.RowKit

theorem isFm_pv : ∀ (M D : List (List Int)) (b : Int), isFm D b M = true → ∀ r ∈ M, b < pv r := by
  intro M
  induction M with
  | nil => intro D b _ r hr; cases hr
  | cons a M ih =>
    intro D b h r hr
    rw [isFm_cons] at h
    by_cases h1 : pv a ≤ b
    · rw [if_pos h1] at h; cases h
    · rw [if_neg h1] at h
      by_cases h2 : a.getD (pv a).toNat 0 < 0
      · rw [if_pos h2] at h; cases h
      · rw [if_neg h2] at h
        split at h
        · cases h
        · rcases List.mem_cons.1 hr with rfl | hr
          · omega
          · have := ih _ _ h r hr; omega
theorem isFormB_pv {M : List (List Int)} (h : isFormB M = true) : ∀ r ∈ M, 0 ≤ pv r := fun r hr => by have := isFm_pv M [] (-1) h r hr; omega

set_option maxRecDepth 100000 in
set_option maxHeartbeats 1600000 in
/-- No rows. -/
theorem reduce_none (w : World) (vf vx : Value) (xs : List Int) (n : Nat) (hF : MatAt w vf []) (hx : RowAt w vx xs) (hxn : xs.length = n) (hn0 : 1 ≤ n) (hn1 : n ≤ 64) (hG : GOk w) :
    Calls Tryz.prog 72 #[vf, vx] w (RedPost [] xs w) := by
  have L1 := Lib.hid (lines_any (w.alloc (.cells #[vx] 35)) _ [xs] n 1 rfl (mat_one hx _) (by intro r hr; rw [List.mem_singleton.1 hr]; exact hxn) hn0 (by omega) (by omega) (by omega) (hG.below (nb_alloc _ _)))
  have L2 := Lib.hid (fun W (hW : Below w.heap.size w W) => lines_nil W vf (hF.nb hW))
  have HV : Hid (∃ p c, vx = .slice p n c) := Lib.hid (by obtain ⟨p, c, h, _⟩ := hx.slice_; exact ⟨p, c, by rw [h, hxn]⟩)
  have HX := Lib.hid hxn
  clear hF hx hxn
  obtain ⟨px, cx, rfl⟩ := HV.out
  go_enter Tryz.func72, Tryz.ntmps72
  go_wp2_with (first
    | (go_at_call 46; have _t := hb1; refine (L2.out _ (nb_trans (nb_alloc _ _) (nb_trans hb1 (nb_alloc _ _)))).mono ?_; rintro e w2 ⟨rfl, rfl⟩)
    | (go_at_call 46; refine L1.out.mono ?_; rintro e w1 ⟨G1, cap1, rs1, rfl, hcap1, hrs1, hl1, hb1, hg1⟩; obtain ⟨l, rfl⟩ : ∃ l, rs1 = [l] := one_line hrs1; have q1 : w1.cell? ⟨G1, 0, none⟩ = some (.slice (some ⟨l.gx, 0, none⟩) n l.cx) := hl1.xcell (i := 0) rfl; have q2 : w1.cell? ⟨G1, 1, none⟩ = some (.slice (some ⟨l.gb, 0, none⟩) 1 l.cb) := hl1.bcell (i := 0) rfl))
  have hlx : l.x = xs := by
    have h2 : l.ln = (xs, unitL 1 0) := by simpa [linesOf] using hrs1
    exact congrArg Prod.fst h2
  have HR := Lib.hid ((hl1.rows l (List.mem_cons_self ..)).1.nb (nb_alloc w1 (.cells #[.slice (some ⟨l.gx, 0, none⟩) n l.cx, .slice (some ⟨l.gb, 0, none⟩) 1 l.cb] 90)))
  rw [hlx] at HR
  have HB := Lib.hid (nb_trans (nb_alloc w (.cells #[.slice px n cx] 35)) (nb_trans hb1 (nb_alloc w1 (.cells #[.slice (some ⟨l.gx, 0, none⟩) n l.cx, .slice (some ⟨l.gb, 0, none⟩) 1 l.cb] 90))))
  have HG := Lib.hid (hg1.below (nb_alloc w1 (.cells #[.slice (some ⟨l.gx, 0, none⟩) n l.cx, .slice (some ⟨l.gb, 0, none⟩) 1 l.cb] 90)))
  have k1 := (alloc1_0 w1 (.slice (some ⟨l.gx, 0, none⟩) n l.cx) (.slice (some ⟨l.gb, 0, none⟩) 1 l.cb) 90)
  obtain ⟨W, hW⟩ : ∃ W, W = w1.alloc (.cells #[.slice (some ⟨l.gx, 0, none⟩) n l.cx, .slice (some ⟨l.gb, 0, none⟩) 1 l.cb] 90) := ⟨_, rfl⟩
  rw [← hW] at k1 HR HB HG ⊢
  obtain ⟨lb, hlb⟩ : ∃ x, x = w1.heap.size := ⟨_, rfl⟩
  rw [← hlb] at k1 ⊢
  clear hlx hW hlb hrs1 hl1 hb1 hg1 q1 q2 hcap1 L1 L2
  go_loopw [5, 21] (fun s5 s21 wr => s5 = .slice none 0 0 ∧ s21 = .int .i64 0 ∧ wr = W) (fun _ _ _ => 0)
  case atStart => exact ⟨rfl, rfl, rfl⟩
  case round =>
    obtain ⟨rfl, rfl, rfl⟩ := hrel
    go_wp2_with fail
    go_ret2
    exact ⟨_, _, rfl, HR.out.tx HX.out, ⟨none, 0, rfl, fun j hj => by cases hj⟩, HB.out, HG.out⟩
set_option maxRecDepth 100000 in
set_option maxHeartbeats 1600000 in
/-- No elements. -/
theorem reduce_flat (w : World) (vf vx : Value) (hF : MatAt w vf []) (hx : RowAt w vx []) (hG : GOk w) :
    Calls Tryz.prog 72 #[vf, vx] w (RedPost [] [] w) := by
  have L1 := Lib.hid (lines_flat (w.alloc (.cells #[vx] 35)) _ [[]] 1 rfl (mat_one hx _) (by intro r hr; rw [List.mem_singleton.1 hr]; rfl) (by omega) (by omega))
  have L2 := Lib.hid (fun W (hW : Below w.heap.size w W) => lines_nil W vf (hF.nb hW))
  obtain ⟨px, cx, rfl, -, -⟩ := hx.slice_
  clear hF hx
  go_enter Tryz.func72, Tryz.ntmps72
  go_wp2_with (first
    | (go_at_call 46; have _t := hb1; refine (L2.out _ (nb_trans (nb_alloc _ _) (nb_trans hb1 (nb_alloc _ _)))).mono ?_; rintro e w2 ⟨rfl, rfl⟩)
    | (go_at_call 46; refine L1.out.mono ?_; rintro e w1 ⟨G1, cap1, rfl, hcap1, -, hcl1, hb1⟩; have q1 : w1.cell? ⟨G1, 0, none⟩ = some (.slice none 0 0) := (hcl1 0 (by omega)).1; obtain ⟨pu, nu, cu, q2⟩ : ∃ p n c, w1.cell? ⟨G1, 1, none⟩ = some (.slice p n c) := (hcl1 0 (by omega)).2))
  have HB := Lib.hid (nb_trans (nb_alloc w (.cells #[.slice px 0 cx] 35)) (nb_trans hb1 (nb_alloc w1 (.cells #[.slice none 0 0, .slice pu nu cu] 90))))
  have HG := Lib.hid (hG.below HB.out)
  have k1 := (alloc1_0 w1 (.slice none 0 0) (.slice pu nu cu) 90)
  obtain ⟨W, hW⟩ : ∃ W, W = w1.alloc (.cells #[.slice none 0 0, .slice pu nu cu] 90) := ⟨_, rfl⟩
  rw [← hW] at k1 HB HG ⊢
  obtain ⟨lb, hlb⟩ : ∃ x, x = w1.heap.size := ⟨_, rfl⟩
  rw [← hlb] at k1 ⊢
  clear hW hlb hb1 q1 q2 hcap1 hcl1 L1 L2
  go_loopw [5, 21] (fun s5 s21 wr => s5 = .slice none 0 0 ∧ s21 = .int .i64 0 ∧ wr = W) (fun _ _ _ => 0)
  case atStart => exact ⟨rfl, rfl, rfl⟩
  case round =>
    obtain ⟨rfl, rfl, rfl⟩ := hrel
    go_wp2_with fail
    go_ret2
    exact ⟨_, _, rfl, ⟨none, 0, rfl, fun j hj => by cases hj⟩, ⟨none, 0, rfl, fun j hj => by cases hj⟩, HB.out, HG.out⟩

/-- A row's error. -/
def chkR (x : List Int) : Int := if 64 < x.length then 4 else if Lim x then 0 else 4
theorem unfits_any (x : Int) (hx : I64 x) (w : World) : Calls Tryz.prog 143 #[.int .i64 x] w fun e w' => e = .returned (.bool (decide (x < -1000000000 ∨ 1000000000 < x))) ∧ Below w.heap.size w w' := by
  have FT : Hid (∀ W, Calls Tryz.prog 144 #[.int .i64 x] W fun e w' => e = .returned (.bool (!(decide (x < -1000000000 ∨ 1000000000 < x)))) ∧ Below W.heap.size W w') := Lib.hid (by
    intro W
    by_cases h1 : x < -1000000000
    · have h2 : decide (x < -1000000000 ∨ 1000000000 < x) = true := decide_eq_true (.inl h1)
      rw [h2]
      clear h2
      go_enter Tryz.func144, Tryz.ntmps144
      go_wp2_with fail
      go_ret
      exact ⟨by first | rfl | (simp; omega), nb_refl _⟩
    · by_cases h3 : 1000000000 < x
      · have h2 : decide (x < -1000000000 ∨ 1000000000 < x) = true := decide_eq_true (.inr h3)
        rw [h2]
        clear h2
        go_enter Tryz.func144, Tryz.ntmps144
        go_wp2_with fail
        go_ret
        exact ⟨by first | rfl | (simp; omega), nb_refl _⟩
      · have h2 : decide (x < -1000000000 ∨ 1000000000 < x) = false := decide_eq_false (by omega)
        rw [h2]
        clear h2
        go_enter Tryz.func144, Tryz.ntmps144
        go_wp2_with fail
        go_ret
        exact ⟨by first | rfl | (simp; omega), nb_refl _⟩)
  obtain ⟨B, hB⟩ : ∃ B, B = decide (x < -1000000000 ∨ 1000000000 < x) := ⟨_, rfl⟩
  rw [← hB] at FT ⊢
  clear hB
  go_enter Tryz.func143, Tryz.ntmps143
  go_wp2_with (go_at_call 144; refine (FT.out _).mono ?_; rintro e w1 ⟨rfl, hb1⟩)
  go_ret
  exact ⟨by simp, hb1⟩
theorem call_unfits (x : Value) (W : World) : Sem.run Tryz.prog (callFunc 143 #[x]) W = .ok (.enter 143 #[x]) W := by simp [go_sem, Tryz.func143]
theorem unfitsRow_any (w : World) (v : Value) (xs : List Int) (h : RowAt w v xs) :
    Calls Tryz.prog 78 #[v, .func (.func 143) #[] #[]] w fun e w' => e = .returned (.bool (decide (¬ Lim xs))) ∧ Below w.heap.size w w' := by
  refine (containsRow_any w 143 v xs (fun i => decide (xs.getD i 0 < -1000000000 ∨ 1000000000 < xs.getD i 0)) h call_unfits (fun i W _ _ => unfits_any _ (I64.getD h.i64 i) W)).mono ?_
  rintro e w' ⟨he, hb⟩
  refine ⟨?_, hb⟩
  rw [he]
  congr 2
  rw [decide_eq_decide]
  exact lim_not xs
set_option maxRecDepth 100000 in
theorem rcheck_any (w : World) (v : Value) (xs : List Int) (h : RowAt w v xs) :
    Calls Tryz.prog 99 #[v] w fun e w' => e = .returned (.int .i64 (chkR xs)) ∧ Below w.heap.size w w' := by
  have CF := Lib.hid (unfitsRow_any w v xs h)
  obtain ⟨p, c, rfl, hc, hmax⟩ := h.slice_
  obtain ⟨n, hn⟩ : ∃ n, n = xs.length := ⟨_, rfl⟩
  unfold chkR
  rw [← hn] at CF hc hmax ⊢
  clear h hn
  by_cases h1 : 64 < n
  · rw [if_pos h1]
    go_enter Tryz.func99, Tryz.ntmps99
    go_wp2_with fail
    go_ret
    exact ⟨rfl, nb_refl _⟩
  · rw [if_neg h1]
    by_cases h2 : Lim xs
    · rw [if_pos h2]
      rw [show decide (¬ Lim xs) = false from decide_eq_false (fun h => h h2)] at CF
      clear h2
      go_enter Tryz.func99, Tryz.ntmps99
      go_wp2_with (go_at_call 78; refine CF.out.mono ?_; rintro e w1 ⟨rfl, hb1⟩)
      go_ret
      exact ⟨rfl, hb1⟩
    · rw [if_neg h2]
      rw [show decide (¬ Lim xs) = true from decide_eq_true h2] at CF
      clear h2
      go_enter Tryz.func99, Tryz.ntmps99
      go_wp2_with (go_at_call 78; refine CF.out.mono ?_; rintro e w1 ⟨rfl, hb1⟩)
      go_ret
      exact ⟨rfl, hb1⟩
end Go.Proofs.YtmfkpmepgbjmkaaGreatDoor

namespace Go.Proofs.YtmfkpmepgbjmkaaGreatDoor
open Go.RowKit

/-- The first error of a form with a row. -/
def openE (F : List (List Int)) (x : List Int) : Int :=
  if chkM F ≠ 0 then chkM F else if isFormB F = false then 7 else if chkR x ≠ 0 then chkR x else if 0 < F.length ∧ x.length ≠ (F.getD 0 []).length then 5 else 0
structure OpenOk (n : Nat) (F : List (List Int)) (x : List Int) : Prop where
  right : Right n F
  form : isFormB F = true
  lim : Lim x
  len : x.length ≤ 64
  cols : 0 < F.length → x.length = n
theorem openE_zero {F : List (List Int)} {x : List Int} (h : openE F x = 0) : OpenOk (F.getD 0 []).length F x := by
  unfold openE at h
  by_cases h0 : chkM F ≠ 0
  · rw [if_pos h0] at h; exact absurd h h0
  · rw [if_neg h0] at h
    by_cases h1 : isFormB F = false
    · rw [if_pos h1] at h; cases h
    · rw [if_neg h1] at h
      by_cases h2 : chkR x ≠ 0
      · rw [if_pos h2] at h; exact absurd h h2
      · rw [if_neg h2] at h
        by_cases h3 : 0 < F.length ∧ x.length ≠ (F.getD 0 []).length
        · rw [if_pos h3] at h; cases h
        · have h2' : chkR x = 0 := by omega
          unfold chkR at h2'
          by_cases h4 : 64 < x.length
          · rw [if_pos h4] at h2'; cases h2'
          · rw [if_neg h4] at h2'
            by_cases h5 : Lim x
            · exact ⟨chkM_zero (by omega), by simpa using h1, h5, by omega, fun h => by omega⟩
            · rw [if_neg h5] at h2'; cases h2'
set_option maxRecDepth 100000 in
set_option maxHeartbeats 1600000 in
theorem open_any (w : World) (vf vx : Value) (F : List (List Int)) (x : List Int) (hF : MatAt w vf F) (hx : RowAt w vx x) :
    Calls Tryz.prog 58 #[vf, vx] w fun e w' => e = .returned (.int .i64 (openE F x)) ∧ Below w.heap.size w w' := by
  have IF := Lib.hid (isForm_out w vf F hF)
  have RC := Lib.hid (fun W (hW : Below w.heap.size w W) => rcheck_any W vx x (hx.nb hW))
  have HF := Lib.hid (fun W (hW : Below w.heap.size w W) => hF.nb hW)
  obtain ⟨px, cx, rfl, -, hxm⟩ := hx.slice_
  obtain ⟨pf, cf, rfl, -, hfm⟩ := hF.slice_
  unfold openE
  by_cases h0 : chkM F = 0
  · rw [if_neg (by omega)]
    have CI : Hid (Calls Tryz.prog 16 #[.slice pf F.length cf] w fun e w' => e = .returned (.tuple #[.bool (isFormB F), .int .i64 0]) ∧ Below w.heap.size w w') := Lib.hid (IF.out.mono (by
      rintro e w' ⟨h | h, hb⟩
      · exact absurd h0 h.1
      · exact ⟨h.2, hb⟩))
    clear IF h0
    obtain ⟨nf, hnf⟩ : ∃ n, n = F.length := ⟨_, rfl⟩
    obtain ⟨nx, hnx⟩ : ∃ n, n = x.length := ⟨_, rfl⟩
    rw [← hnf] at CI hfm HF ⊢
    rw [← hnx] at RC hxm ⊢
    cases hz : isFormB F with
    | false =>
      rw [hz] at CI
      rw [if_pos rfl]
      clear hz hnf hnx hF hx
      go_enter Tryz.func58, Tryz.ntmps58
      go_wp2_with (go_at_call 16; refine CI.out.mono ?_; rintro e w1 ⟨rfl, hb1⟩)
      go_ret
      exact ⟨rfl, hb1⟩
    | true =>
      rw [hz] at CI
      rw [if_neg (by decide)]
      obtain ⟨k, hk⟩ : ∃ k, k = chkR x := ⟨_, rfl⟩
      rw [← hk] at RC ⊢
      by_cases hk0 : k = 0
      · subst hk0
        rw [if_neg (by omega)]
        by_cases hf0 : 0 < nf
        · obtain ⟨b, o, c, hve, -, hcell⟩ := hF.open_ (by omega)
          obtain ⟨u, hu, hr⟩ := hcell 0 (by omega)
          obtain ⟨pr, cr, rfl, -, -⟩ := hr.slice_
          rw [Nat.add_zero] at hu
          cases hve
          obtain ⟨l0, hl0⟩ : ∃ l, l = (F.getD 0 []).length := ⟨_, rfl⟩
          rw [← hl0] at hu ⊢
          clear hcell hr hl0 hk hz hnf hnx hF hx HF
          by_cases hne : nx ≠ l0
          · rw [if_pos ⟨hf0, hne⟩]
            have hd : ((nx : Int) != (l0 : Int)) = true := by rw [bne_iff_ne]; omega
            have hd1 : decide ((nf : Int) > 0) = true := decide_eq_true (by omega)
            clear hne
            go_enter Tryz.func58, Tryz.ntmps58
            go_wp2_with (first
              | (go_at_call 16; refine CI.out.mono ?_; rintro e w1 ⟨rfl, hb1⟩)
              | (go_at_call 99; refine (RC.out _ hb1).mono ?_; rintro e w2 ⟨rfl, hb2⟩; have hu2 := cellB (nb_trans hb1 hb2) hu))
            go_ret
            exact ⟨rfl, nb_trans hb1 hb2⟩
          · rw [if_neg (fun h => hne h.2)]
            obtain rfl : nx = l0 := by omega
            clear hne
            go_enter Tryz.func58, Tryz.ntmps58
            go_wp2_with (first
              | (go_at_call 16; refine CI.out.mono ?_; rintro e w1 ⟨rfl, hb1⟩)
              | (go_at_call 99; refine (RC.out _ hb1).mono ?_; rintro e w2 ⟨rfl, hb2⟩; have hu2 := cellB (nb_trans hb1 hb2) hu))
            go_ret
            exact ⟨rfl, nb_trans hb1 hb2⟩
        · rw [if_neg (fun h => hf0 h.1)]
          obtain rfl : nf = 0 := by omega
          clear hk hz hnf hnx hF hx HF hf0
          go_enter Tryz.func58, Tryz.ntmps58
          go_wp2_with (first
            | (go_at_call 16; refine CI.out.mono ?_; rintro e w1 ⟨rfl, hb1⟩)
            | (go_at_call 99; refine (RC.out _ hb1).mono ?_; rintro e w2 ⟨rfl, hb2⟩))
          go_ret
          exact ⟨rfl, nb_trans hb1 hb2⟩
      · rw [if_pos hk0]
        have hd : (k != 0) = true := int_bne hk0
        clear hk hz hnf hnx hF hx HF hk0
        go_enter Tryz.func58, Tryz.ntmps58
        go_wp2_with (first
          | (go_at_call 16; refine CI.out.mono ?_; rintro e w1 ⟨rfl, hb1⟩)
          | (go_at_call 99; refine (RC.out _ hb1).mono ?_; rintro e w2 ⟨rfl, hb2⟩))
        go_ret
        exact ⟨rfl, nb_trans hb1 hb2⟩
  · rw [if_pos h0]
    have CI : Hid (Calls Tryz.prog 16 #[.slice pf F.length cf] w fun e w' => e = .returned (.tuple #[.bool false, .int .i64 (chkM F)]) ∧ Below w.heap.size w w') := Lib.hid (IF.out.mono (by
      rintro e w' ⟨h | h, hb⟩
      · exact ⟨h.2, hb⟩
      · exact absurd h.1 h0))
    obtain ⟨k, hk⟩ : ∃ k, k = chkM F := ⟨_, rfl⟩
    obtain ⟨nf, hnf⟩ : ∃ n, n = F.length := ⟨_, rfl⟩
    rw [← hnf] at CI hfm ⊢
    rw [← hk] at CI h0 ⊢
    have hd : (k != 0) = true := int_bne h0
    clear IF h0 hk hnf hF hx HF
    go_enter Tryz.func58, Tryz.ntmps58
    go_wp2_with (go_at_call 16; refine CI.out.mono ?_; rintro e w1 ⟨rfl, hb1⟩)
    go_ret
    exact ⟨rfl, hb1⟩

/-- reduce, of what open lets by. -/
theorem reduce_any (w : World) (vf vx : Value) (F : List (List Int)) (x : List Int) (n : Nat) (hF : MatAt w vf F) (hx : RowAt w vx x) (h : OpenOk n F x) (hG : GOk w) :
    Calls Tryz.prog 72 #[vf, vx] w (RedPost F x w) := by
  have hpv := isFormB_pv h.form
  by_cases hF0 : 0 < F.length
  · have hxn := h.cols hF0
    have hn0 : 1 ≤ n := by
      have h1 := getD_mem [] hF0
      have h2 := hpv _ h1
      have h3 := h.right.row _ h1
      rcases pv_spec (F.getD 0 []) with ⟨h4, _⟩ | ⟨_, h4, _⟩
      · omega
      · omega
    exact reduce_main w vf vx F x n F.length hF hx rfl hxn h.right.row (fun r hr => ⟨h.right.lim r hr, hpv r hr⟩) h.lim hn0 (by have := h.right.cols; omega) hF0 h.right.len hG
  · have hFe : F = [] := List.eq_nil_of_length_eq_zero (by omega)
    subst hFe
    by_cases hx0 : x.length = 0
    · have hxe : x = [] := List.eq_nil_of_length_eq_zero hx0
      subst hxe
      exact reduce_flat w vf vx hF hx hG
    · exact reduce_none w vf vx x x.length hF hx rfl (by omega) h.len hG
theorem red_lens {F : List (List Int)} {x : List Int} {n : Nat} (h : OpenOk n F x) : (redL F x).1.length = x.length ∧ (redL F x).2.length = F.length := by
  by_cases hF0 : 0 < F.length
  · have := redL_len F x h.right.row (h.cols hF0)
    rw [h.cols hF0]
    exact this
  · have hFe : F = [] := List.eq_nil_of_length_eq_zero (by omega)
    subst hFe
    exact ⟨rfl, rfl⟩
theorem red_za {F : List (List Int)} {x : List Int} {n : Nat} (h : OpenOk n F x) : (∀ y ∈ (redL F x).1, Za y) ∧ ∀ y ∈ (redL F x).2, Za y := by
  have hb := redL_bd F x (fun r hr => ⟨h.right.lim r hr, isFormB_pv h.form r hr⟩) h.lim
  have hl := h.right.len
  exact ⟨fun y hy => (hb.1 y hy).za (by omega) (by omega), fun y hy => (hb.2 y hy).za (by omega) (by omega)⟩

set_option maxRecDepth 100000 in
theorem contains_any (w : World) (vf vx : Value) (F : List (List Int)) (x : List Int) (n : Nat) (hF : MatAt w vf F) (hx : RowAt w vx x) (h : OpenOk n F x) (hG : GOk w) :
    Calls Tryz.prog 59 #[vf, vx] w fun e w' => ∃ v2, e = .returned (.tuple #[v2, .bool (!(decide (0 ≤ pv (redL F x).1)))]) ∧ TxAt w' v2 (redL F x).2 ∧ Below w.heap.size w w' ∧ GOk w' := by
  have RD := Lib.hid (reduce_any w vf vx F x n hF hx h hG)
  have hl := red_lens h
  have HL := h.len
  have CF := Lib.hid (fun W v (ht : TxAt W v (redL F x).1) => anyTx_any W v _ ht (by omega))
  unfold RedPost at RD
  obtain ⟨a, ha⟩ : ∃ a, a = (redL F x).1 := ⟨_, rfl⟩
  obtain ⟨b, hb⟩ : ∃ b, b = (redL F x).2 := ⟨_, rfl⟩
  rw [← ha] at CF RD ⊢
  rw [← hb] at RD ⊢
  obtain ⟨B, hB⟩ : ∃ B, B = decide (0 ≤ pv a) := ⟨_, rfl⟩
  rw [← hB] at CF ⊢
  clear hB ha hb hl HL h hF hx
  go_enter Tryz.func59, Tryz.ntmps59
  go_wp2_with (first
    | (go_at_call 72; refine RD.out.mono ?_; rintro e w1 ⟨v1, v2, rfl, ht1, ht2, hb1, hg1⟩; have HT1 := Lib.hid ht1; have HT2 := Lib.hid ht2; clear ht1 ht2)
    | (go_at_call 100; refine (CF.out _ _ HT1.out).mono ?_; rintro e w2 ⟨rfl, hb2⟩))
  go_ret2
  exact ⟨v2, rfl, HT2.out.nb hb2, nb_trans hb1 hb2, hg1.below hb2⟩
end Go.Proofs.YtmfkpmepgbjmkaaGreatDoor

namespace Go.Proofs.YtmfkpmepgbjmkaaGreatDoor
open Go.RowKit

/-- What Reduce answers. -/
def ReducePost (F : List (List Int)) (x : List Int) (w : World) (e : Ending) (w' : World) : Prop :=
  ((openE F x ≠ 0 ∧ e = .returned (.tuple #[.slice none 0 0, .slice none 0 0, .int .i64 (openE F x)])) ∨
   (openE F x = 0 ∧ ¬ (Lim (redL F x).1 ∧ Lim (redL F x).2) ∧ e = .returned (.tuple #[.slice none 0 0, .slice none 0 0, .int .i64 4])) ∨
   (openE F x = 0 ∧ (Lim (redL F x).1 ∧ Lim (redL F x).2) ∧ ∃ u1 u2, e = .returned (.tuple #[u1, u2, .int .i64 0]) ∧ RowAt w' u1 (redL F x).1 ∧ RowAt w' u2 (redL F x).2)) ∧ Below w.heap.size w w' ∧ GOk w'
set_option maxRecDepth 100000 in
set_option maxHeartbeats 1600000 in
theorem Reduce_any (w : World) (vf vx : Value) (F : List (List Int)) (x : List Int) (hF : MatAt w vf F) (hx : RowAt w vx x) (hG : GOk w) :
    Calls Tryz.prog 38 #[vf, vx] w (ReducePost F x w) := by
  have OP := Lib.hid (open_any w vf vx F x hF hx)
  unfold ReducePost
  by_cases h0 : openE F x = 0
  · have hO := openE_zero h0
    have RD := Lib.hid (fun W (hW : Below w.heap.size w W) (hg : GOk W) => reduce_any W vf vx F x _ (hF.nb hW) (hx.nb hW) hO hg)
    unfold RedPost at RD
    have hl := red_lens hO
    have hz := red_za hO
    have l1 := hO.len
    have l2 := hO.right.len
    have S1 := Lib.hid (fun W v (ht : TxAt W v (redL F x).1) (hg : GOk W) => small_any W v _ ht hz.1 (by omega) hg)
    have S2 := Lib.hid (fun W v (ht : TxAt W v (redL F x).2) (hg : GOk W) => small_any W v _ ht hz.2 (by omega) hg)
    rw [h0] at OP ⊢
    obtain ⟨a, ha⟩ : ∃ a, a = (redL F x).1 := ⟨_, rfl⟩
    obtain ⟨b, hb⟩ : ∃ b, b = (redL F x).2 := ⟨_, rfl⟩
    rw [← ha] at S1 RD ⊢
    rw [← hb] at S2 RD ⊢
    clear ha hb hl hz l1 l2 hO hF hx h0
    go_enter Tryz.func38, Tryz.ntmps38
    go_upto_if 28 with (first
      | (go_at_call 58; refine OP.out.mono ?_; rintro e w1 ⟨rfl, hb1⟩)
      | (go_at_call 72; refine (RD.out _ hb1 (hG.below hb1)).mono ?_; rintro e w2 ⟨v1, v2, rfl, ht1, ht2, hb2, hg2⟩; have HT1 := Lib.hid ht1; have HT2 := Lib.hid ht2; clear ht1 ht2)
      | (go_at_call 49; refine (S1.out _ _ HT1.out hg2).mono ?_; rintro e w3 ⟨hs, hb3⟩; rcases hs with ⟨hlim, u1, rfl, hru, -⟩ | ⟨hlim, rfl⟩))
    · have HR1 := Lib.hid (And.intro hlim hru)
      have hg3 := hg2.below hb3
      have HT2' := Lib.hid (HT2.out.nb hb3)
      clear hlim hru HT1 HT2 S1 OP RD
      go_upto_if 36 with (go_at_call 49; refine (S2.out _ _ HT2'.out hg3).mono ?_; rintro e w4 ⟨hs, hb4⟩; rcases hs with ⟨hlim, u2, rfl, hru, -⟩ | ⟨hlim, rfl⟩)
      · have HR2 := Lib.hid (And.intro hlim hru)
        clear hlim hru
        go_wp2_with fail
        go_ret3
        exact ⟨.inr (.inr ⟨by first | exact rfl | trivial, ⟨HR1.out.1, HR2.out.1⟩, u1, u2, rfl, HR1.out.2.nb hb4, HR2.out.2⟩), nb_trans hb1 (nb_trans hb2 (nb_trans hb3 hb4)), hg3.below hb4⟩
      · have HR2 := Lib.hid hlim
        clear hlim
        go_wp2_with fail
        go_ret3
        exact ⟨.inr (.inl ⟨by first | exact rfl | trivial, fun h => HR2.out h.2, rfl⟩), nb_trans hb1 (nb_trans hb2 (nb_trans hb3 hb4)), hg3.below hb4⟩
    · have HR1 := Lib.hid hlim
      clear hlim
      go_wp2_with fail
      go_ret3
      exact ⟨.inr (.inl ⟨by first | exact rfl | trivial, fun h => HR1.out h.1, rfl⟩), nb_trans hb1 (nb_trans hb2 hb3), hg2.below hb3⟩
  · obtain ⟨k, hk⟩ : ∃ k, k = openE F x := ⟨_, rfl⟩
    rw [← hk] at OP h0 ⊢
    have hd : (k != 0) = true := int_bne h0
    have H0 := Lib.hid h0
    clear h0 hk hF hx
    go_enter Tryz.func38, Tryz.ntmps38
    go_wp2_with (go_at_call 58; refine OP.out.mono ?_; rintro e w1 ⟨rfl, hb1⟩)
    go_ret3
    exact ⟨.inl ⟨H0.out, rfl⟩, hb1, hG.below hb1⟩

/-- What Contains answers. -/
def ContPost (F : List (List Int)) (x : List Int) (w : World) (e : Ending) (w' : World) : Prop :=
  ((openE F x ≠ 0 ∧ e = .returned (.tuple #[.bool false, .int .i64 (openE F x)])) ∨ (openE F x = 0 ∧ e = .returned (.tuple #[.bool (!(decide (0 ≤ pv (redL F x).1))), .int .i64 0]))) ∧ Below w.heap.size w w' ∧ GOk w'
set_option maxRecDepth 100000 in
theorem Contains_any (w : World) (vf vx : Value) (F : List (List Int)) (x : List Int) (hF : MatAt w vf F) (hx : RowAt w vx x) (hG : GOk w) :
    Calls Tryz.prog 18 #[vf, vx] w (ContPost F x w) := by
  have OP := Lib.hid (open_any w vf vx F x hF hx)
  unfold ContPost
  by_cases h0 : openE F x = 0
  · have hO := openE_zero h0
    have RD := Lib.hid (fun W (hW : Below w.heap.size w W) (hg : GOk W) => contains_any W vf vx F x _ (hF.nb hW) (hx.nb hW) hO hg)
    rw [h0] at OP ⊢
    obtain ⟨B, hB⟩ : ∃ B, B = (!(decide (0 ≤ pv (redL F x).1))) := ⟨_, rfl⟩
    rw [← hB] at RD ⊢
    clear hB hO hF hx h0
    go_enter Tryz.func18, Tryz.ntmps18
    go_wp2_with (first
      | (go_at_call 58; refine OP.out.mono ?_; rintro e w1 ⟨rfl, hb1⟩)
      | (go_at_call 59; refine (RD.out _ hb1 (hG.below hb1)).mono ?_; rintro e w2 ⟨v2, rfl, -, hb2, hg2⟩))
    go_ret2
    exact ⟨.inr ⟨by first | exact rfl | trivial, rfl⟩, nb_trans hb1 hb2, hg2⟩
  · obtain ⟨k, hk⟩ : ∃ k, k = openE F x := ⟨_, rfl⟩
    rw [← hk] at OP h0 ⊢
    have hd : (k != 0) = true := int_bne h0
    have H0 := Lib.hid h0
    clear h0 hk hF hx
    go_enter Tryz.func18, Tryz.ntmps18
    go_wp2_with (go_at_call 58; refine OP.out.mono ?_; rintro e w1 ⟨rfl, hb1⟩)
    go_ret2
    exact ⟨.inl ⟨H0.out, rfl⟩, hb1, hG.below hb1⟩
end Go.Proofs.YtmfkpmepgbjmkaaGreatDoor

namespace Go.Proofs.YtmfkpmepgbjmkaaGreatDoor
open Go.RowKit

/-- The first error of two matrices. -/
def pairE (F S : List (List Int)) : Int :=
  if chkM F ≠ 0 then chkM F else if chkM S ≠ 0 then chkM S else if isFormB F = false then 7 else if 0 < F.length ∧ 0 < S.length ∧ (F.getD 0 []).length ≠ (S.getD 0 []).length then 5 else 0
structure PairOk (n k : Nat) (F S : List (List Int)) : Prop where
  right : Right n F
  sub : Right k S
  form : isFormB F = true
  cols : 0 < F.length → 0 < S.length → n = k
theorem pairE_zero {F S : List (List Int)} (h : pairE F S = 0) : PairOk (F.getD 0 []).length (S.getD 0 []).length F S := by
  unfold pairE at h
  by_cases h0 : chkM F ≠ 0
  · rw [if_pos h0] at h; exact absurd h h0
  · rw [if_neg h0] at h
    by_cases h1 : chkM S ≠ 0
    · rw [if_pos h1] at h; exact absurd h h1
    · rw [if_neg h1] at h
      by_cases h2 : isFormB F = false
      · rw [if_pos h2] at h; cases h
      · rw [if_neg h2] at h
        by_cases h3 : 0 < F.length ∧ 0 < S.length ∧ (F.getD 0 []).length ≠ (S.getD 0 []).length
        · rw [if_pos h3] at h; cases h
        · exact ⟨chkM_zero (by omega), chkM_zero (by omega), by simpa using h2, fun a b => by omega⟩
theorem head_len {w : World} {v : Value} {M : List (List Int)} (h : MatAt w v M) (h0 : 0 < M.length) : ∃ b o c p k, v = .slice (some ⟨b, o, none⟩) M.length c ∧ w.cell? ⟨b, o, none⟩ = some (.slice p (M.getD 0 []).length k) := by
  obtain ⟨b, o, c, hv, -, hcell⟩ := h.open_ h0
  obtain ⟨u, hu, hr⟩ := hcell 0 h0
  obtain ⟨p, k, rfl, -, -⟩ := hr.slice_
  rw [Nat.add_zero] at hu
  exact ⟨b, o, c, p, k, hv, hu⟩

set_option maxRecDepth 100000 in
set_option maxHeartbeats 1600000 in
theorem pair_any (w : World) (vf vs : Value) (F S : List (List Int)) (hF : MatAt w vf F) (hS : MatAt w vs S) :
    Calls Tryz.prog 50 #[vf, vs] w fun e w' => e = .returned (.int .i64 (pairE F S)) ∧ Below w.heap.size w w' := by
  have CF := Lib.hid (fun W (hW : Below w.heap.size w W) => check_any W vf F (hF.nb hW))
  have CS := Lib.hid (fun W (hW : Below w.heap.size w W) => check_any W vs S (hS.nb hW))
  have IF := Lib.hid (fun W (hW : Below w.heap.size w W) (h0 : chkM F = 0) => isForm_any W vf F _ (hF.nb hW) (chkM_zero h0).row (by have := (chkM_zero h0).cols; omega))
  have HHF := Lib.hid (fun (W : World) (hW : Below w.heap.size w W) h0 => head_len (hF.nb hW) h0)
  have HHS := Lib.hid (fun (W : World) (hW : Below w.heap.size w W) h0 => head_len (hS.nb hW) h0)
  obtain ⟨px, cx, rfl, -, hxm⟩ := hF.slice_
  obtain ⟨ps, cs, rfl, -, hsm⟩ := hS.slice_
  unfold pairE
  obtain ⟨kf, hkf⟩ : ∃ k, k = chkM F := ⟨_, rfl⟩
  obtain ⟨ks, hks⟩ : ∃ k, k = chkM S := ⟨_, rfl⟩
  obtain ⟨z, hz⟩ : ∃ k, k = isFormB F := ⟨_, rfl⟩
  obtain ⟨nf, hnf⟩ : ∃ n, n = F.length := ⟨_, rfl⟩
  obtain ⟨ns, hns⟩ : ∃ n, n = S.length := ⟨_, rfl⟩
  obtain ⟨lf, hlf⟩ : ∃ n, n = (F.getD 0 []).length := ⟨_, rfl⟩
  obtain ⟨ls, hls⟩ : ∃ n, n = (S.getD 0 []).length := ⟨_, rfl⟩
  rw [← hkf] at CF IF ⊢
  rw [← hks] at CS ⊢
  rw [← hz] at IF ⊢
  rw [← hnf] at CF IF HHF hxm ⊢
  rw [← hns] at CS HHS hsm ⊢
  rw [← hlf] at HHF ⊢
  rw [← hls] at HHS ⊢
  clear hkf hks hz hnf hns hlf hls hF hS
  obtain ⟨E, hE⟩ : ∃ E, E = (if kf ≠ 0 then kf else if ks ≠ 0 then ks else if z = false then 7 else if 0 < nf ∧ 0 < ns ∧ lf ≠ ls then 5 else 0) := ⟨_, rfl⟩
  rw [← hE]
  have HE := Lib.hid hE
  clear hE
  obtain ⟨W0, hW0⟩ : ∃ W, W = w.alloc (.cells #[.slice px nf cx, .slice ps ns cs] 29) := ⟨_, rfl⟩
  have k1 : W0.cell? ⟨w.heap.size, 0, none⟩ = some (.slice px nf cx) := by rw [hW0]; exact alloc1_0 _ _ _ _
  have k2 : W0.cell? ⟨w.heap.size, 1, none⟩ = some (.slice ps ns cs) := by rw [hW0]; exact alloc1_1 _ _ _ _
  have hb0 : Below w.heap.size w W0 := by rw [hW0]; exact nb_alloc _ _
  have HW0 := Lib.hid hW0
  clear hW0
  go_enter Tryz.func50, Tryz.ntmps50
  go_wp2_with fail
  rw [← HW0.out]
  clear HW0
  go_loopw [12] (fun s wr => ∃ i : Nat, i ≤ 2 ∧ s = .int .i64 i ∧ Hid ((1 ≤ i → kf = 0) ∧ (2 ≤ i → ks = 0)) ∧ Below W0.heap.size W0 wr) (fun s _ => 2 - (intOf s).toNat)
  case atStart => exact ⟨0, by omega, rfl, ⟨fun h => by omega, fun h => by omega⟩, nb_refl _⟩
  case round =>
    obtain ⟨i, hi, rfl, hc, hb⟩ := hrel
    have hbw : Below w.heap.size w wr := hb0.trans (hb.mono hb0.size)
    have q1 := cellB hb k1
    have q2 := cellB hb k2
    have hi3 : i = 0 ∨ i = 1 ∨ i = 2 := by omega
    rcases hi3 with rfl | rfl | rfl
    · by_cases hk : kf = 0
      · have HC : Hid ((1 ≤ 1 → kf = 0) ∧ (2 ≤ 1 → ks = 0)) := Lib.hid ⟨fun _ => hk, fun h => by omega⟩
        subst hk
        go_wp2_with (go_at_call 45; refine (CF.out _ hbw).mono ?_; rintro e w1 ⟨rfl, hb1⟩)
        go_roundw
        case rel => exact ⟨1, by omega, by go_num, HC, hb.trans (hb1.mono hb.size)⟩
        case measure => (simp [intOf]) <;> omega
      · have hd : (kf != 0) = true := int_bne hk
        have HR : Hid (E = kf) := Lib.hid (by rw [HE.out, if_pos hk])
        clear hk
        go_wp2_with (go_at_call 45; refine (CF.out _ hbw).mono ?_; rintro e w1 ⟨rfl, hb1⟩)
        go_ret
        exact ⟨by rw [HR.out]; rfl, hbw.trans (hb1.mono hbw.size)⟩
    · by_cases hk : ks = 0
      · have HC : Hid ((1 ≤ 2 → kf = 0) ∧ (2 ≤ 2 → ks = 0)) := Lib.hid ⟨fun _ => hc.out.1 (by omega), fun _ => hk⟩
        subst hk
        go_wp2_with (go_at_call 45; refine (CS.out _ hbw).mono ?_; rintro e w1 ⟨rfl, hb1⟩)
        go_roundw
        case rel => exact ⟨2, by omega, by go_num, HC, hb.trans (hb1.mono hb.size)⟩
        case measure => (simp [intOf]) <;> omega
      · have hd : (ks != 0) = true := int_bne hk
        have HR : Hid (E = ks) := Lib.hid (by rw [HE.out, if_neg (by have := hc.out.1 (by omega); omega), if_pos hk])
        clear hk
        go_wp2_with (go_at_call 45; refine (CS.out _ hbw).mono ?_; rintro e w1 ⟨rfl, hb1⟩)
        go_ret
        exact ⟨by rw [HR.out]; rfl, hbw.trans (hb1.mono hbw.size)⟩
    · have hk0 := hc.out.1 (by omega)
      have hk1 := hc.out.2 (by omega)
      have IF' := Lib.hid (IF.out _ hbw hk0)
      have HR : Hid (E = if z = false then 7 else if 0 < nf ∧ 0 < ns ∧ lf ≠ ls then 5 else 0) := Lib.hid (by rw [HE.out, if_neg (by omega), if_neg (by omega)])
      clear HE IF hk0 hk1 hc
      cases z with
      | false =>
        have HR' : Hid (E = 7) := Lib.hid (by rw [HR.out, if_pos rfl])
        go_wp2_with (go_at_call 57; refine IF'.out.mono ?_; rintro e w1 ⟨rfl, hb1⟩)
        go_ret
        exact ⟨by rw [HR'.out]; rfl, hbw.trans (hb1.mono hbw.size)⟩
      | true =>
        by_cases hf0 : 0 < nf
        · obtain ⟨bf, of, cf', pf', kf', hve, hcf⟩ := HHF.out _ hbw hf0
          cases hve
          by_cases hs0 : 0 < ns
          · obtain ⟨bs, os, cs', ps', ks', hve, hcs⟩ := HHS.out _ hbw hs0
            cases hve
            have HR' : Hid (E = if lf ≠ ls then 5 else 0) := Lib.hid (by
              rw [HR.out, if_neg (by decide)]
              by_cases h : lf ≠ ls
              · rw [if_pos ⟨hf0, hs0, h⟩, if_pos h]
              · rw [if_neg (fun hh => h hh.2.2), if_neg h])
            have d1 : decide ((0 : Int) < (nf : Int)) = true := decide_eq_true (by omega)
            have d2 : decide ((0 : Int) < (ns : Int)) = true := decide_eq_true (by omega)
            clear HR
            by_cases hne : lf = ls
            · subst hne
              have HR2 : Hid (E = 0) := Lib.hid (by rw [HR'.out, if_neg (fun h => h rfl)])
              go_wp2_with (go_at_call 57; refine IF'.out.mono ?_; rintro e w1 ⟨rfl, hb1⟩; have q3 := cellB hb1 hcf; have q4 := cellB hb1 hcs)
              go_quiet (fail)
              go_wp2_with fail
              go_ret
              exact ⟨by rw [HR2.out]; rfl, hbw.trans ((nb_trans hb1 (nb_drewN _ _)).mono hbw.size)⟩
            · have HR2 : Hid (E = 5) := Lib.hid (by rw [HR'.out, if_pos hne])
              have hd : ((lf : Int) != (ls : Int)) = true := by rw [bne_iff_ne]; omega
              clear hne
              go_wp2_with (go_at_call 57; refine IF'.out.mono ?_; rintro e w1 ⟨rfl, hb1⟩; have q3 := cellB hb1 hcf; have q4 := cellB hb1 hcs)
              go_quiet (fail)
              go_wp2_with fail
              go_ret
              exact ⟨by rw [HR2.out]; rfl, hbw.trans ((nb_trans hb1 (nb_drewN _ _)).mono hbw.size)⟩
          · obtain rfl : ns = 0 := by omega
            have HR' : Hid (E = 0) := Lib.hid (by rw [HR.out, if_neg (by decide), if_neg (fun h => by omega)])
            have d1 : decide ((0 : Int) < (nf : Int)) = true := decide_eq_true (by omega)
            clear hs0 HR
            go_wp2_with (go_at_call 57; refine IF'.out.mono ?_; rintro e w1 ⟨rfl, hb1⟩)
            go_quiet (fail)
            go_wp2_with fail
            go_ret
            exact ⟨by rw [HR'.out]; rfl, hbw.trans ((nb_trans hb1 (nb_drewN _ _)).mono hbw.size)⟩
        · obtain rfl : nf = 0 := by omega
          have HR' : Hid (E = 0) := Lib.hid (by rw [HR.out, if_neg (by decide), if_neg (fun h => by omega)])
          clear hf0 HR
          go_wp2_with (go_at_call 57; refine IF'.out.mono ?_; rintro e w1 ⟨rfl, hb1⟩)
          go_quiet (fail)
          go_wp2_with fail
          go_ret
          exact ⟨by rw [HR'.out]; rfl, hbw.trans ((nb_trans hb1 (nb_drewN _ _)).mono hbw.size)⟩

/-- Has the lattice this row? -/
def hasB (F : List (List Int)) (r : List Int) : Bool := !(decide (0 ≤ pv (redL F r).1))
def inclB (F S : List (List Int)) : Bool := !(decide (∃ i, i < S.length ∧ (!(hasB F (S.getD i []))) = true))
set_option maxRecDepth 100000 in
theorem incl1_any (w : World) (vf vx : Value) (fb : Nat) (F : List (List Int)) (x : List Int) (n : Nat) (hfb : w.cell? ⟨fb, 0, none⟩ = some vf) (hF : MatAt w vf F) (hx : RowAt w vx x) (h : OpenOk n F x) (hG : GOk w) :
    Calls Tryz.prog 87 #[vx, .pointer (some ⟨fb, 0, none⟩)] w fun e w' => e = .returned (.bool (!(hasB F x))) ∧ Below w.heap.size w w' := by
  have CT := Lib.hid (contains_any w vf vx F x n hF hx h hG)
  have hB : Hid (hasB F x = !(decide (0 ≤ pv (redL F x).1))) := rfl
  obtain ⟨B, hBe⟩ : ∃ B, B = hasB F x := ⟨_, rfl⟩
  rw [← hBe] at hB ⊢
  rw [← hB.out] at CT
  obtain ⟨pf, cf, hve, -, -⟩ := hF.slice_
  subst hve
  clear hB hBe hF hx h
  go_enter Tryz.func87, Tryz.ntmps87
  go_wp2_with (go_at_call 59; refine CT.out.mono ?_; rintro e w1 ⟨v2, rfl, -, hb1, hg1⟩)
  go_ret
  exact ⟨rfl, hb1⟩
theorem call_incl (x a : Value) (W : World) : Sem.run Tryz.prog (callFunc 87 (#[x] ++ #[a])) W = .ok (.enter 87 (#[x] ++ #[a])) W := by simp [go_sem, Tryz.func87]
theorem PairOk.open_ {n k : Nat} {F S : List (List Int)} (h : PairOk n k F S) {r : List Int} (hr : r ∈ S) : OpenOk n F r := by
  have h1 := h.sub.row r hr
  have h2 := h.sub.cols
  refine ⟨h.right, h.form, h.sub.lim r hr, by omega, fun hF => ?_⟩
  rw [h1]
  exact (h.cols hF (List.length_pos_of_mem hr)).symm
set_option maxRecDepth 100000 in
theorem includes_any (w : World) (vf vs : Value) (F S : List (List Int)) (n k : Nat) (hF : MatAt w vf F) (hS : MatAt w vs S) (h : PairOk n k F S) (hG : GOk w) :
    Calls Tryz.prog 51 #[vf, vs] w fun e w' => e = .returned (.bool (inclB F S)) ∧ Below w.heap.size w w' := by
  have CM : Hid (∀ (W : World) (fb : Nat), Below w.heap.size w W → W.cell? ⟨fb, 0, none⟩ = some vf → Calls Tryz.prog 86 #[vs, .func (.func 87) #[] #[.pointer (some ⟨fb, 0, none⟩)]] W
      fun e w' => e = .returned (.bool (decide (∃ i, i < S.length ∧ (!(hasB F (S.getD i []))) = true))) ∧ Below W.heap.size W w') := Lib.hid (by
    intro W fb hW hfb
    refine containsMat_any W 87 #[.pointer (some ⟨fb, 0, none⟩)] vs S (fun i => !(hasB F (S.getD i []))) (hS.nb hW) (fun x W => call_incl x _ W) ?_
    intro i W' u hi hW' hu
    exact incl1_any W' vf u fb F _ n (cellB hW' hfb) ((hF.nb hW).nb hW') hu (h.open_ (getD_mem [] hi)) ((hG.below hW).below hW'))
  have HI : Hid (inclB F S = !(decide (∃ i, i < S.length ∧ (!(hasB F (S.getD i []))) = true))) := rfl
  obtain ⟨B, hBe⟩ : ∃ B, B = decide (∃ i, i < S.length ∧ (!(hasB F (S.getD i []))) = true) := ⟨_, rfl⟩
  rw [← hBe] at CM HI
  obtain ⟨pf, cf, hve, -, -⟩ := hF.slice_
  obtain ⟨lf, hlf⟩ : ∃ l, l = F.length := ⟨_, rfl⟩
  rw [← hlf] at hve
  subst hve
  clear hBe hF hS h hlf
  go_enter Tryz.func51, Tryz.ntmps51
  go_wp2_with (go_at_call 86; refine (CM.out _ w.heap.size (nb_alloc _ _) (alloc_one _ _ _)).mono ?_; rintro e w1 ⟨rfl, hb1⟩)
  go_ret
  exact ⟨by rw [HI.out]; rfl, nb_trans (nb_alloc _ _) hb1⟩
end Go.Proofs.YtmfkpmepgbjmkaaGreatDoor
