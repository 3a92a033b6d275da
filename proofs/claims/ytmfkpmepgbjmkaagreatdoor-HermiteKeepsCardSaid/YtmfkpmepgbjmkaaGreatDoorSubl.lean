/-
  WALKS: the law HermiteSublattices.
-/
import Derived.Test.YtmfkpmepgbjmkaaGreatDoorGrid
set_option linter.unusedVariables false
set_option linter.unusedSimpArgs false
namespace Go.Proofs.YtmfkpmepgbjmkaaGreatDoor
open Go.RowKit

set_option maxRecDepth 100000 in
theorem int_any (n : Int) (h : I64 n) (w : World) (hG : GOk w) :
    Calls Tryz.prog 15 #[.int .i64 n] w fun e w' => e = .returned (.string (tx n)) ∧ Below w.heap.size w w' := by
  have IT := Lib.hid (itoa_any n h w hG)
  go_enter Tryz.func15, Tryz.ntmps15
  go_wp2_with (go_at_call 56; refine IT.out.mono ?_; rintro e w1 ⟨rfl, hb1⟩)
  go_ret
  exact ⟨rfl, hb1⟩
set_option maxRecDepth 100000 in
theorem Includes_any (w : World) (vf vs : Value) (F S : List (List Int)) (hF : MatAt w vf F) (hS : MatAt w vs S) (h0 : pairE F S = 0) (hG : GOk w) :
    Calls Tryz.prog 13 #[vf, vs] w fun e w' => e = .returned (.tuple #[.bool (inclB F S), .int .i64 0]) ∧ Below w.heap.size w w' := by
  have PR := Lib.hid (pair_any w vf vs F S hF hS)
  have IN := Lib.hid (fun W (hW : Below w.heap.size w W) => includes_any W vf vs F S _ _ (hF.nb hW) (hS.nb hW) (pairE_zero h0) (hG.below hW))
  rw [h0] at PR
  obtain ⟨b, hb⟩ : ∃ b, b = inclB F S := ⟨_, rfl⟩
  rw [← hb] at IN ⊢
  clear hb h0 hF hS
  go_enter Tryz.func13, Tryz.ntmps13
  go_wp2_with (first
    | (go_at_call 50; refine PR.out.mono ?_; rintro e w1 ⟨rfl, hb1⟩)
    | (go_at_call 51; refine (IN.out _ hb1).mono ?_; rintro e w2 ⟨rfl, hb2⟩))
  go_ret2
  exact ⟨rfl, nb_trans hb1 hb2⟩
theorem index_any (w : World) (vf vs : Value) (F S : List (List Int)) (hF : MatAt w vf F) (hS : MatAt w vs S) (hn9 : Ln.dg (S.getD 0 []).length 10 ≤ 3000000000) (hG : GOk w) :
    Calls Tryz.prog 14 #[vf, vs] w (IndexPost F S w) := by
  by_cases h0 : pairE F S = 0
  · cases h1 : inclB F S with
    | false => exact index_out w vf vs F S hF hS h0 h1 hG
    | true =>
      by_cases hn : (S.getD 0 []).length = 0
      · exact index_flat w vf vs F S hF hS h0 h1 hn hG
      · exact index_main w vf vs F S hF hS h0 h1 (by omega) hn9 hG
  · exact index_bad w vf vs F S hF hS h0
theorem dg_four {n : Nat} (h : n ≤ 4) : Ln.dg n 10 ≤ 3000000000 := Nat.le_trans (Ln.dg_mono h 10) (by decide)
/-- Rows of small elements. -/
structure Grd (n m : Nat) (M : List (List Int)) : Prop where
  len : M.length = m
  row : ∀ r ∈ M, r.length = n
  small : ∀ r ∈ M, ∀ x ∈ r, -20 ≤ x ∧ x ≤ 20
  n4 : 1 ≤ n ∧ n ≤ 4
  m4 : m ≤ 4
theorem makeL_grd (r c : Nat) (E : Nat → Int) : Grd (1 + c % 4) (r % 5) (makeL r c E) := by
  refine ⟨makeL_len r c E, ?_, ?_, by omega, by omega⟩
  · intro q hq
    unfold makeL at hq
    obtain ⟨i, _, rfl⟩ := List.mem_map.1 hq
    exact lineL_len c E i
  · intro q hq
    unfold makeL at hq
    obtain ⟨i, _, rfl⟩ := List.mem_map.1 hq
    exact lineL_small c E i
theorem head_n {n : Nat} {M : List (List Int)} (h : ∀ r ∈ M, r.length = n) : (M.getD 0 []).length = if M.length = 0 then 0 else n := by
  cases M with
  | nil => rfl
  | cons r M => exact h r (List.mem_cons_self ..)
theorem right_of {n : Nat} {M : List (List Int)} (hm : M.length ≤ 12) (hn : n ≤ 12) (hr : ∀ r ∈ M, r.length = n) (hl : ∀ r ∈ M, Lim r) : chkM M = 0 := by
  have e := head_n hr
  refine Right.chk (n := (M.getD 0 []).length) ⟨hm, ?_, ?_, hl⟩
  · rw [e]; split <;> omega
  · intro r h
    rw [e, if_neg (by have := List.length_pos_of_mem h; omega)]
    exact hr r h
theorem Grd.chk {n m : Nat} {M : List (List Int)} (h : Grd n m M) : chkM M = 0 :=
  right_of (by have := h.len; have := h.m4; omega) (by have := h.n4; omega) h.row (fun r hr x hx => by have := h.small r hr x hx; omega)
theorem Grd.nat {n m : Nat} {M : List (List Int)} (h : Grd n m M) : ∀ r ∈ M, ∀ x ∈ r, x.natAbs ≤ 20 := fun r hr x hx => by have := h.small r hr x hx; omega
theorem Grd.head {n m : Nat} {M : List (List Int)} (h : Grd n m M) : (M.getD 0 []).length ≤ 4 := by
  rw [head_n h.row]
  have := h.n4
  split <;> omega
theorem form_grd (w : World) (v : Value) (n m : Nat) (M : List (List Int)) (h : MatAt w v M) (hg : Grd n m M) (hG : GOk w) :
    Calls Tryz.prog 12 #[v] w fun e w' => ∃ u L, e = .returned (.tuple #[u, .int .i64 0]) ∧ MatO w' w.heap.size u L ∧ FormOf (M.getD 0 []).length M L ∧ (∀ r ∈ L, Lim r) ∧ Below w.heap.size w w' := by
  refine (form_any w v M h (Nat.le_trans (dg_four hg.head) (by decide)) hG).mono ?_
  rintro e w' ⟨h1 | ⟨_, L, hL, h2⟩, hb⟩
  · exact absurd hg.chk h1.1
  · have hl := hL.lim hg.head hg.nat
    rcases h2 with ⟨_, u, he, hm⟩ | ⟨hn, _⟩
    · exact ⟨u, L, he, hm, hL, hl, hb⟩
    · exact absurd hl hn
/-- The form of a right matrix, with another right matrix of as many columns. -/
theorem pair_ok {n : Nat} {M L S : List (List Int)} (hM : ∀ r ∈ M, r.length = n) (hml : M.length ≤ 12) (hn : n ≤ 12) (hL : FormOf (M.getD 0 []).length M L) (hl : ∀ r ∈ L, Lim r) (hS : ∀ r ∈ S, r.length = n) (hsl : S.length ≤ 12) (hs : ∀ r ∈ S, Lim r) : pairE L S = 0 := by
  have hr := hL.rank_le
  have hLn : ∀ r ∈ L, r.length = n := by
    intro r h
    rw [hL.len r h, head_n hM, if_neg]
    intro h0
    have := List.length_pos_of_mem h
    omega
  unfold pairE
  rw [if_neg (by rw [right_of (by omega) hn hLn hl]; simp), if_neg (by rw [right_of hsl hn hS hs]; simp), if_neg (by rw [formB_of hL]; simp), if_neg]
  rintro ⟨h1, h2, h3⟩
  rw [head_n hLn, head_n hS, if_neg (by omega), if_neg (by omega)] at h3
  exact h3 rfl

/-! ### The multiples -/
def kOf (x : Int) : Int := if x.tmod 8 = 0 then 1 else x.tmod 8
theorem kOf_spec (x : Int) : kOf x ≠ 0 ∧ -7 ≤ kOf x ∧ kOf x ≤ 7 := by
  have h1 := Int.tmod_lt_of_pos x (show (0 : Int) < 8 by decide)
  have h2 := Int.lt_tmod_of_pos x (show (0 : Int) < 8 by decide)
  unfold kOf
  split <;> omega
def ksL (m : Nat) (K : Nat → Int) : List Int := (List.range m).map fun i => kOf (K i)
def prL (K : Nat → Int) : Nat → Int
  | 0 => 1
  | i + 1 => prL K i * (kOf (K i)).natAbs
theorem prodAbs_append (a b : List Int) : Hnf.prodAbs (a ++ b) = Hnf.prodAbs a * Hnf.prodAbs b := by
  induction a with
  | nil => show Hnf.prodAbs b = 1 * Hnf.prodAbs b; rw [Int.one_mul]
  | cons x a ih => show (x.natAbs : Int) * Hnf.prodAbs (a ++ b) = (x.natAbs : Int) * Hnf.prodAbs a * Hnf.prodAbs b; rw [ih, Int.mul_assoc]
theorem prL_eq (K : Nat → Int) : ∀ m, Hnf.prodAbs (ksL m K) = prL K m := by
  intro m
  induction m with
  | zero => rfl
  | succ m ih =>
    have e : ksL (m + 1) K = ksL m K ++ [kOf (K m)] := by unfold ksL; rw [List.range_succ, List.map_append]; rfl
    rw [e, prodAbs_append, ih]
    show prL K m * ((kOf (K m)).natAbs * 1) = prL K m * (kOf (K m)).natAbs
    rw [Int.mul_one]
theorem prL_bd (K : Nat → Int) : ∀ m, 0 ≤ prL K m ∧ prL K m ≤ 7 ^ m := by
  intro m
  induction m with
  | zero => exact ⟨(by show (0 : Int) ≤ 1; decide), (by show (1 : Int) ≤ 7 ^ 0; decide)⟩
  | succ m ih =>
    have h := kOf_spec (K m)
    have h7 : ((kOf (K m)).natAbs : Int) ≤ 7 := by omega
    show 0 ≤ prL K m * (kOf (K m)).natAbs ∧ prL K m * (kOf (K m)).natAbs ≤ 7 ^ (m + 1)
    refine ⟨Int.mul_nonneg ih.1 (by omega), ?_⟩
    have h1 := Int.mul_le_mul_of_nonneg_left h7 ih.1
    have h2 := Int.mul_le_mul_of_nonneg_right ih.2 (show (0 : Int) ≤ 7 by decide)
    rw [Int.pow_succ]
    omega
def sclL (M : List (List Int)) (K : Nat → Int) : List (List Int) := M.zipIdx.map fun p => p.1.map (kOf (K p.2) * ·)
theorem sclL_len (M : List (List Int)) (K : Nat → Int) : (sclL M K).length = M.length := by simp [sclL]
theorem sclL_at (M : List (List Int)) (K : Nat → Int) {i : Nat} (hi : i < M.length) : (sclL M K).getD i [] = (M.getD i []).map (kOf (K i) * ·) := by
  unfold sclL
  rw [List.getD_eq_getElem?_getD, List.getElem?_map, List.getElem?_zipIdx, List.getElem?_eq_getElem hi, List.getD_eq_getElem?_getD, List.getElem?_eq_getElem hi]
  simp
theorem sclL_scl (M : List (List Int)) (K : Nat → Int) : (sclL M K).map Ln.xrow = Hnf.scl (ksL M.length K) (M.map Ln.xrow) := by
  have key : ∀ (M : List (List Int)) (s : Nat), (M.zipIdx s).map (fun p => Ln.xrow (p.1.map (kOf (K p.2) * ·))) = Hnf.scl ((List.range' s M.length).map fun i => kOf (K i)) (M.map Ln.xrow) := by
    intro M
    induction M with
    | nil => intro s; rfl
    | cons r M ih =>
      intro s
      rw [List.zipIdx_cons, List.map_cons, ih (s + 1), List.length_cons, List.range'_succ, List.map_cons, List.map_cons]
      show _ = (fun j => kOf (K s) * Ln.xrow r j) :: Hnf.scl _ _
      congr 1
      funext j
      unfold Ln.xrow
      rw [List.getD_eq_getElem?_getD, List.getElem?_map, List.getD_eq_getElem?_getD]
      cases r[j]? <;> simp
  unfold sclL ksL
  rw [List.map_map, List.range_eq_range']
  exact key M 0
theorem sclL_row {n m : Nat} {M : List (List Int)} (h : Grd n m M) (K : Nat → Int) : (∀ r ∈ sclL M K, r.length = n) ∧ ∀ r ∈ sclL M K, Lim r := by
  have key : ∀ r ∈ sclL M K, ∃ q ∈ M, ∃ i, r = q.map (kOf (K i) * ·) := by
    intro r hr
    unfold sclL at hr
    obtain ⟨p, hp, rfl⟩ := List.mem_map.1 hr
    exact ⟨p.1, List.fst_mem_of_mem_zipIdx hp, p.2, rfl⟩
  refine ⟨fun r hr => ?_, fun r hr x hx => ?_⟩
  · obtain ⟨q, hq, i, rfl⟩ := key r hr
    rw [List.length_map]; exact h.row q hq
  · obtain ⟨q, hq, i, rfl⟩ := key r hr
    obtain ⟨y, hy, rfl⟩ := List.mem_map.1 hx
    have h1 := h.small q hq y hy
    have h2 := kOf_spec (K i)
    have h3 : (kOf (K i) * y).natAbs ≤ 7 * 20 := Hnf.abs_mul (by omega) (by omega)
    show -1000000000 ≤ kOf (K i) * y ∧ kOf (K i) * y ≤ 1000000000
    omega
theorem kmul_i64 (x y : Int) (h : -20 ≤ y ∧ y ≤ 20) : -140 ≤ kOf x * y ∧ kOf x * y ≤ 140 := by
  have h2 := kOf_spec x
  have h3 : (kOf x * y).natAbs ≤ 7 * 20 := Hnf.abs_mul (by omega) (by omega)
  omega

/-- Four small multiples, as they are handed over. -/
structure FourAt (v : Value) (K : Nat → Int) (B : Array Value) : Prop where
  val : v = .agg B
  size : B.size = 4
  ent : ∀ i, i < 4 → B[i]? = some (.int .i8 (K i))
  eb : ∀ i, i < 4 → -128 ≤ K i ∧ K i ≤ 127

set_option maxRecDepth 100000 in
set_option maxHeartbeats 3200000 in
theorem subl_any (w : World) (v v2 : Value) (r c : Nat) (E K : Nat → Int) (A B : Array Value) (hv : GridAt v r c E A) (hv2 : FourAt v2 K B) (hG : GOk w) :
    Calls Tryz.prog 3 #[v, v2] w fun e w' => e = .returned (.bool true) ∧ Below w.heap.size w w' := by
  obtain ⟨i0, hi0, hz0, hz1, hz2⟩ := info_parts Tryz.infoI
  obtain ⟨j0, hj0, hy0, hy1, hy2⟩ := info_parts Tryz.infoR
  have KN := Lib.hid (fun W hg => known_any W hg)
  have MK := Lib.hid (fun W => make_any W v r c E A hv)
  obtain ⟨M, hM⟩ : ∃ M, M = makeL r c E := ⟨_, rfl⟩
  obtain ⟨m, hm⟩ : ∃ m, m = r % 5 := ⟨_, rfl⟩
  obtain ⟨n, hn⟩ : ∃ n, n = 1 + c % 4 := ⟨_, rfl⟩
  have hgrd : Grd n m M := by rw [hM, hm, hn]; exact makeL_grd r c E
  rw [← hM] at MK
  clear hM hm hn
  have FO := Lib.hid (fun W u (h : MatAt W u M) hg => form_grd W u n m M h hgrd hg)
  obtain ⟨rfl, hsz, -, -, -, -, -⟩ := hv
  obtain ⟨rfl, hsz2, he, heb⟩ := hv2
  have HB := Lib.hid (nb_trans (nb_alloc w (.cells A 25)) (nb_alloc _ (.cells B 26)))
  obtain ⟨g, hg⟩ : ∃ g, g = w.heap.size := ⟨_, rfl⟩
  obtain ⟨g2, hg2⟩ : ∃ g2, g2 = w.heap.size + 1 := ⟨_, rfl⟩
  obtain ⟨w1, hw1⟩ : ∃ w1, w1 = (w.alloc (.cells A 25)).alloc (.cells B 26) := ⟨_, rfl⟩
  rw [← hw1] at HB
  have hA1 : Hid (w1.heap[g]? = some (.cells A 25 (0, 0))) := Lib.hid (by
    rw [hw1, hg]
    rw [(nb_alloc (w.alloc (.cells A 25)) (.cells B 26)).block w.heap.size (by rw [alloc_size]; omega)]
    simp [World.alloc, -World.alloc_eq])
  have hB1 : Hid (∀ i, i < 4 → w1.cell? ⟨g2, i, none⟩ = some (.int .i8 (K i))) := Lib.hid (fun i hi => by
    have := cell_new (w.alloc (.cells A 25)) B 26 (he i hi)
    rw [alloc_size] at this
    rw [hw1, hg2]; exact this)
  have HSZ : Hid ((Tryz.prog.info? 25).map (·.size) = some A.size) := Lib.hid (by rw [hsz]; kernel_rfl)
  have HEB := Lib.hid heb
  have HG := Lib.hid (And.intro hg.symm hg2.symm)
  have HW := Lib.hid hw1.symm
  have HGR := Lib.hid hgrd
  have HG1 := Lib.hid (hG.below HB.out)
  clear hsz hsz2 he heb hg hg2 hw1 hgrd hG
  go_enter Tryz.func3, Tryz.ntmps3
  go_upto_region 1 with fail
  rw [HW.out, HG.out.2, HG.out.1]
  go_upto_region 7 with (first
    | (refine wpList_load_row rfl 25 _ rfl g rfl _ A (0, 0) _ hgr.out Tryz.underlying25 rfl HSZ.out ?_)
    | (go_at_call 10; refine (KN.out _ HG1.out).mono ?_; rintro e wk ⟨rfl, hbk, hgk⟩; have hgr := Lib.hid ((hbk.block g (Array.getElem?_eq_some_iff.1 hA1.out).1).trans hA1.out))
    | (go_at_call 11; refine (MK.out _).mono ?_; rintro e wm ⟨u, rfl, hmo, hbm⟩; have hma := hmo.at_; have hgm := hgk.below hbm; have HMA := Lib.hid hma; clear hma hmo)
    | (go_at_call 12; refine (FO.out _ _ HMA.out hgm).mono ?_; rintro e wf ⟨uf, L, rfl, hfo, hL, hl, hbf⟩; have hgf := hgm.below hbf; have HF := Lib.hid (And.intro hL hl); have HFA := Lib.hid hfo.at_; clear hL hl hfo))
  have HM := Lib.hid (HMA.out.nb hbf)
  obtain ⟨pm, cm, hue, hmc, hm63⟩ := HM.out.slice_
  rw [HGR.out.len] at hue hmc hm63
  subst hue
  have hm4 := HGR.out.m4
  have hn4 := HGR.out.n4
  have HBF : Hid (Below w1.heap.size w1 wf) := Lib.hid (nb_trans hbk (nb_trans hbm hbf))
  have HGF := Lib.hid hgf
  obtain ⟨S, hS⟩ : ∃ S, S = sclL M K := ⟨_, rfl⟩
  have HS := Lib.hid hS
  have HSR : Hid (S.length = m ∧ ∀ i, i < m → S.getD i [] = (M.getD i []).map (kOf (K i) * ·)) := Lib.hid (by
    rw [hS]
    exact ⟨by rw [sclL_len, HGR.out.len], fun i hi => sclL_at M K (by rw [HGR.out.len]; exact hi)⟩)
  clear hS hgr hbk hgk hbm hgm hbf hgf HMA KN MK FO hA1
  go_wp2_with fail
  go_loopw [8, 9, 10] (fun s8 s9 s10 wr => ∃ i : Nat, i ≤ m ∧ s10 = .int .i64 i ∧ s9 = .int .i64 (prL K i) ∧ Hid (MatO wr wf.heap.size s8 (S.take i)) ∧ Below wf.heap.size wf wr) (fun _ _ s10 _ => m - (intOf s10).toNat)
  case atStart => exact ⟨0, Nat.zero_le _, rfl, rfl, MatO.start _ _, nb_refl _⟩
  case round =>
    obtain ⟨i, hi, rfl, rfl, hst, hb⟩ := hrel
    obtain ⟨vo, hvo⟩ : ∃ x, x = u8 := ⟨_, rfl⟩
    subst hvo
    obtain ⟨w5, hw5⟩ : ∃ x, x = wr := ⟨_, rfl⟩
    subst hw5
    by_cases him : i < m
    · obtain ⟨bm, om, ui, rfl, hui, hri⟩ : ∃ bm om ui, pm = some ⟨bm, om, none⟩ ∧ w5.cell? ⟨bm, om + i, none⟩ = some ui ∧ RowAt w5 ui (M.getD i []) := by
        obtain ⟨p', c', e, _, _, h4⟩ := HM.out.nb hb
        cases e
        obtain ⟨b, o, u, e1, e2, e3⟩ := h4 i (by rw [HGR.out.len]; exact him)
        exact ⟨b, o, u, e1, e2, e3⟩
      have hrm := getD_mem [] (show i < M.length by rw [HGR.out.len]; exact him)
      have hrl := HGR.out.row _ hrm
      have HRS := Lib.hid (HGR.out.small _ hrm)
      have hSi := HSR.out.2 i him
      obtain ⟨br, or, cr, hue, hrc, hrx⟩ := hri.open_ (by rw [hrl]; omega)
      rw [hrl] at hue hrx
      subst hue
      have HRX := Lib.hid hrx
      have HUI := Lib.hid hui
      obtain ⟨row, hrow⟩ : ∃ row, row = M.getD i [] := ⟨_, rfl⟩
      rw [← hrow] at HRX HRS hSi hrl
      have hk8 : w5.cell? ⟨g2, i, none⟩ = some (.int .i8 (K i)) := cellB hb (cellB HBF.out (hB1.out i (by omega)))
      have hkb := HEB.out i (by omega)
      obtain ⟨kk, hkk⟩ : ∃ kk, kk = kOf (K i) := ⟨_, rfl⟩
      have hk7 := kOf_spec (K i)
      rw [← hkk] at hk7 hSi
      have HKK := Lib.hid hkk
      obtain ⟨x, hx⟩ : ∃ x, x = K i := ⟨_, rfl⟩
      rw [← hx] at hk8 hkb
      have HX := Lib.hid hx
      have HSI := Lib.hid hSi
      have HRL := Lib.hid hrl
      clear hui hri hrm hrx hrow hkk hx hSi hrl
      go_upto_if 42 with fail
      go_cut [11] (fun s11 wx => s11 = .int .i64 kk ∧ w5 = wx)
      case first =>
        have hkx : kk = if x.tmod 8 = 0 then 1 else x.tmod 8 := by rw [HKK.out, HX.out]; rfl
        by_cases h8 : x.tmod 8 = 0
        · rw [if_pos h8] at hkx
          have h8' : (x.tmod 8 == 0) = true := by rw [h8]; rfl
          rw [h8']
          go_wp2_with fail
          go_meet
          exact ⟨by rw [hkx], rfl⟩
        · rw [if_neg h8] at hkx
          have h8' : (x.tmod 8 == 0) = false := by rw [beq_eq_false_iff_ne]; exact h8
          rw [h8']
          go_wp2_with fail
          go_meet
          exact ⟨by rw [hkx], rfl⟩
      case rest =>
        obtain ⟨rfl, rfl⟩ := hcut
        clear hk8 hkb
        go_wp2_with fail
        go_loopw [12, 13] (fun s12 s13 wq => ∃ k : Nat, k ≤ n ∧ s13 = .int .i64 k ∧ Hid (wq.ownsRow w5.heap.size 3 1 s12 k (ints ((S.getD i []).take k))) ∧ Below w5.heap.size w5 wq) (fun _ s13 _ => n - (intOf s13).toNat)
        case atStart => exact ⟨0, Nat.zero_le _, rfl, World.ownsRow_nil _ _ _ _, nb_refl _⟩
        case round =>
          obtain ⟨k, hk, rfl, hst2, hb2⟩ := hrel
          obtain ⟨vr, hvr⟩ : ∃ x, x = u12 := ⟨_, rfl⟩
          subst hvr
          have c1 := cellB hb2 HUI.out
          by_cases hkn : k < n
          · have c2 := cellB hb2 (HRX.out k hkn)
            have hyb := HRS.out _ (getD_mem 0 (show k < row.length by rw [HRL.out]; exact hkn))
            obtain ⟨y, hy⟩ : ∃ y, y = row.getD k 0 := ⟨_, rfl⟩
            rw [← hy] at c2 hyb
            have hky : -140 ≤ kk * y ∧ kk * y ≤ 140 := by rw [HKK.out]; exact kmul_i64 _ y hyb
            have HSK : Hid ((S.getD i []).getD k 0 = kk * y ∧ k < (S.getD i []).length) := Lib.hid (by
              rw [HSI.out]
              refine ⟨?_, by rw [List.length_map, HRL.out]; exact hkn⟩
              rw [hy, List.getD_eq_getElem?_getD, List.getElem?_map, List.getD_eq_getElem?_getD, List.getElem?_eq_getElem (by rw [HRL.out]; exact hkn)]; rfl)
            have HOW := Lib.hid hst2.out
            have hs2 := hb2.size
            obtain ⟨z, hz⟩ : ∃ z, z = kk * y := ⟨_, rfl⟩
            have HZ := Lib.hid hz
            clear hy hst2
            go_wp2_with (at_builtin; refine wpList_append_own _ rfl _ _ 35 rfl w5.heap.size 3 i0 (.int .i64 0) 1 8 Tryz.underlying35 hi0 hz0 hz1 hz2 rfl (by decide) vr k _ rfl (HOW.out.alloc _) ⟨wr.heap.size, 0, none⟩ 1 1 [.int .i64 (kk * y)] rfl rfl (cell_one_new _ _ _) (by intro u hu; simp at hu; subst hu; rfl) (by unfold maxLen; omega) (by omega) (by rw [alloc_size]; omega) ?_; intro v' w3 hown3 hgrow3 hnil3)
            have HB3 : Below w5.heap.size w5 w3 := grown_pre hb2 (fun k hk => (HOW.out.lt k hk).1) hgrow3 (Nat.le_refl _)
            have HO3 : Hid (w3.ownsRow w5.heap.size 3 1 v' (k + 1) (ints ((S.getD i []).take (k + 1)))) := Lib.hid (by
              rw [← HSK.out.1, ints_take HSK.out.2] at hown3; exact hown3)
            clear hown3 hgrow3 hnil3
            go_roundw
            case rel => exact ⟨k + 1, by omega, by go_num, HO3, HB3⟩
            case measure => (simp [intOf]) <;> omega
          · obtain rfl : k = n := by omega
            have hrow := hst2.out
            rw [List.take_of_length_le (by rw [HSI.out, List.length_map, HRL.out]; exact Nat.le_refl _)] at hrow
            obtain ⟨pr, cr', rfl⟩ := own_slice hrow
            have HROW : Hid (OwnI wr (.slice pr k cr') (S.getD i [])) := Lib.hid (by
              refine ⟨?_, ?_⟩
              · have e : (S.getD i []).length = k := by rw [HSI.out, List.length_map, HRL.out]
                rw [e]
                exact own_low hrow (Nat.zero_le _)
              · rw [HSI.out]
                intro z hz
                obtain ⟨y, hy, rfl⟩ := List.mem_map.1 hz
                have := kmul_i64 (K i) y (HRS.out y hy)
                rw [← HKK.out] at this
                unfold I64; omega)
            obtain ⟨us, hus⟩ := hst.out
            have HUS : Hid (MatU w5 wf.heap.size vo (S.take i) us) := hus
            have htl : (S.take i).length = i := by rw [List.length_take, HSR.out.1]; omega
            have HTL := Lib.hid htl
            have HUO : Hid (w5.ownsRow wf.heap.size 35 1 vo i us) := Lib.hid (by have := hus.2.1; rw [htl] at this; exact this)
            have HLO : Hid (∀ k, vo.ownBlock = some k → wf.heap.size ≤ k) := Lib.hid (fun k hk => (HUO.out.lt k hk).1)
            have hs5 := hb.size
            have hs6 := hb2.size
            obtain ⟨P, hP⟩ : ∃ P, P = prL K i := ⟨_, rfl⟩
            have HP : Hid (prL K (i + 1) = P * (kk.natAbs : Int)) := Lib.hid (by rw [hP, HKK.out]; rfl)
            have hpb : 0 ≤ P ∧ P ≤ 2401 := by
              have h1 := prL_bd K i
              rw [← hP] at h1
              have h2 : (7 : Int) ^ i ≤ 7 ^ 4 := by
                have : i ≤ 4 := by omega
                rcases (show i = 0 ∨ i = 1 ∨ i = 2 ∨ i = 3 ∨ i = 4 by omega) with rfl | rfl | rfl | rfl | rfl <;> decide
              have h3 : (7 : Int) ^ 4 = 2401 := by decide
              omega
            rw [← hP]
            clear hP hus htl hst hst2 hrow
            go_wp2_with (at_builtin; refine wpList_append_own _ rfl _ _ 29 rfl wf.heap.size 35 j0 (.slice none 0 0) 1 24 Tryz.underlying29 hj0 hy0 hy1 hy2 rfl (by decide) vo i us rfl (own_nb2 HUO.out (nb_trans hb2 (nb_alloc _ _))) ⟨wr.heap.size, 0, none⟩ 1 1 [.slice pr k cr'] rfl rfl (cell_one_new _ _ _) (by intro y hy; simp at hy; subst hy; rfl) (by unfold maxLen; omega) (by omega) (by rw [alloc_size]; omega) ?_; intro v' w6 hown6 hgrow6 hnil6)
            have HM6 : Hid (MatO w6 wf.heap.size v' (S.take (i + 1))) := Lib.hid (by
              rw [take_succ_getD [] (show i < S.length by rw [HSR.out.1]; exact him)]
              exact MatU.app HUS.out hb2 HROW.out _ hgrow6 (by rw [HTL.out]; exact hown6))
            have HB7 : Below wf.heap.size wf w6 := grown_pre (hb.trans (hb2.mono hb.size)) HLO.out hgrow6 (Nat.le_refl _)
            have HPW : wrap64 (P * max kk (-kk)) = prL K (i + 1) := by
              rw [HP.out, show max kk (-kk) = (kk.natAbs : Int) by omega]
              have h1 := Int.mul_le_mul_of_nonneg_left (show (kk.natAbs : Int) ≤ 7 by omega) hpb.1
              have h2 := Int.mul_nonneg hpb.1 (show (0 : Int) ≤ (kk.natAbs : Int) by omega)
              unfold wrap64; omega
            rw [HPW]
            clear hown6 hgrow6 hnil6
            go_roundw
            case rel => exact ⟨i + 1, by omega, by go_num, rfl, HM6, HB7⟩
            case measure => (simp [intOf]) <;> omega
    · obtain rfl : i = m := by omega
      have HE := hst.out
      rw [List.take_of_length_le (by rw [HSR.out.1]; exact Nat.le_refl _)] at HE
      have HSA := Lib.hid HE.at_
      have HGr := Lib.hid (HGF.out.below hb)
      clear hst HE
      have hSr : (∀ r ∈ S, r.length = n) ∧ ∀ r ∈ S, Lim r := by rw [HS.out]; exact sclL_row HGR.out K
      have hp0 : pairE L S = 0 := pair_ok HGR.out.row (by rw [HGR.out.len]; omega) (by omega) HF.out.1 HF.out.2 hSr.1 (by rw [HSR.out.1]; omega) hSr.2
      have hSh : (S.getD 0 []).length = (M.getD 0 []).length := by rw [head_n hSr.1, head_n HGR.out.row, HSR.out.1, HGR.out.len]
      have hSc : S.map Ln.xrow = Hnf.scl (ksL M.length K) (M.map Ln.xrow) := by rw [HS.out]; exact sclL_scl M K
      have hin : inclB L S = true := by
        refine (inclB_iff HF.out.1 (fun hL x hx => ?_)).2 (fun x hx => ?_)
        · rw [hSr.1 x hx, head_n HGR.out.row, if_neg]
          intro h0
          have h1 := HF.out.1.rank_le
          exact hL (List.eq_nil_of_length_eq_zero (by omega))
        · refine (HF.out.1.same _).1 (Hnf.scl_in (ksL M.length K) _ _ ?_)
          rw [← hSc]
          exact List.mem_map.2 ⟨x, hx, rfl⟩
      have hrk := HF.out.1.rank_le
      rw [HGR.out.len] at hrk
      have hks : ∀ k ∈ ksL M.length K, k ≠ 0 := by
        intro k hk
        unfold ksL at hk
        obtain ⟨j, _, rfl⟩ := List.mem_map.1 hk
        exact (kOf_spec _).1
      have hlm : (ksL M.length K).length = M.length := by simp [ksL]
      have hMl := HGR.out.len
      have hdg : Ln.dg (S.getD 0 []).length 10 ≤ 3000000000 := by rw [hSh]; exact dg_four HGR.out.head
      have IX : Hid (∀ W, Below w5.heap.size w5 W → Calls Tryz.prog 14 #[uf, vo] W fun e w' => ∃ z : Int, e = .returned (.tuple #[.string (tx z), .bool true, .int .i64 0]) ∧ (L.length = i → z = prL K i) ∧ Below W.heap.size W w') := Lib.hid (by
        intro W hW
        refine (index_any W uf vo L S ((HFA.out.nb hb).nb hW) (HSA.out.nb hW) hdg (HGr.out.below hW)).mono ?_
        rintro e w' ⟨h1 | h1 | ⟨_, _, L', hL', h2⟩, hb'⟩
        · exact absurd hp0 h1.1
        · rw [hin] at h1; exact absurd h1.2.1 (by decide)
        · rw [hSh] at hL'
          have h3 := idx_scaled HF.out.1 hL' hlm hks hSc
          rcases h2 with ⟨h2, _⟩ | ⟨_, he⟩
          · exact absurd h3.1 (by omega)
          · refine ⟨_, he, fun hl => ?_, hb'⟩
            rw [h3.2 (by omega), prL_eq, hMl])
      have IC : Hid (Calls Tryz.prog 13 #[uf, vo] w5 fun e w' => e = .returned (.tuple #[.bool true, .int .i64 0]) ∧ Below w5.heap.size w5 w') := Lib.hid (by
        have := Includes_any w5 uf vo L S (HFA.out.nb hb) HSA.out hp0 HGr.out
        rw [hin] at this
        exact this)
      have hpb : 0 ≤ prL K i ∧ prL K i ≤ 2401 := by
        have h1 := prL_bd K i
        have h2 : (7 : Int) ^ i ≤ 7 ^ 4 := by
          rcases (show i = 0 ∨ i = 1 ∨ i = 2 ∨ i = 3 ∨ i = 4 by omega) with h | h | h | h | h <;> rw [h] <;> decide
        have h3 : (7 : Int) ^ 4 = 2401 := by decide
        omega
      obtain ⟨P, hP⟩ : ∃ P, P = prL K i := ⟨_, rfl⟩
      rw [← hP] at IX hpb ⊢
      have IT := Lib.hid (fun W (hW : Below w5.heap.size w5 W) => int_any P (by unfold I64; omega) W (HGr.out.below hW))
      obtain ⟨pf, cf, hfe, -, -⟩ := HFA.out.slice_
      subst hfe
      obtain ⟨lf, hlf⟩ : ∃ l, l = L.length := ⟨_, rfl⟩
      rw [← hlf] at IX IC hrk ⊢
      have HBE : Hid (Below w.heap.size w w5) := Lib.hid (HB.out.trans ((HBF.out.trans (hb.mono HBF.out.size)).mono HB.out.size))
      clear hP hlf hSr hp0 hSh hSc hin hks hlm hMl hdg HFA HSA HSR HS HGR HF
      go_wp2_with (first
        | (go_at_call 13; refine IC.out.mono ?_; rintro e w6 ⟨rfl, hb6⟩)
        | (go_at_call 14; refine (IX.out _ hb6).mono ?_; rintro e w7 ⟨z, rfl, hz, hb7⟩; have HZ := Lib.hid hz; clear hz)
        | (go_at_call 15; refine (IT.out _ (nb_trans hb6 hb7)).mono ?_; rintro e w8 ⟨rfl, hb8⟩))
      · go_ret
        refine ⟨?_, HBE.out.trans ((nb_trans hb6 (nb_trans hb7 hb8)).mono HBE.out.size)⟩
        rw [HZ.out (by omega)]
        simp
      · go_ret
        exact ⟨rfl, HBE.out.trans ((nb_trans hb6 hb7).mono HBE.out.size)⟩
end Go.Proofs.YtmfkpmepgbjmkaaGreatDoor
