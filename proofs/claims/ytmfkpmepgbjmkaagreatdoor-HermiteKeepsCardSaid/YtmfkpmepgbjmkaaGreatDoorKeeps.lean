/-
  WALKS: the law HermiteKeeps.
-/
import Derived.Test.YtmfkpmepgbjmkaaGreatDoorCps
import Derived.BigRegion
set_option linter.unusedVariables false
set_option linter.unusedSimpArgs false
namespace Go.Proofs.YtmfkpmepgbjmkaaGreatDoor
open Go.RowKit

theorem rotL_len (M : List (List Int)) (o k : Nat) : (rotL M o k).length = k := by simp [rotL]
theorem rotL_succ (M : List (List Int)) (o k : Nat) : rotL M o (k + 1) = rotL M o k ++ [M.getD ((k + o) % M.length) []] := by
  unfold rotL; rw [List.range_succ, List.map_append]; rfl
theorem rotL_row {n m : Nat} {M : List (List Int)} (h : Grd n m M) (o k : Nat) (hk : k ≤ M.length) : ∀ r ∈ rotL M o k, r.length = n ∧ ∀ x ∈ r, -20 ≤ x ∧ x ≤ 20 := by
  intro r hr
  obtain ⟨i, hi, rfl⟩ := List.mem_map.1 hr
  have hi' := List.mem_range.1 hi
  have := getD_mem [] (Nat.mod_lt (i + o) (show M.length > 0 by omega))
  exact ⟨h.row _ this, h.small _ this⟩
/-- The form of a form is itself; it is right, and a form. -/
theorem form_again {n m : Nat} {M L : List (List Int)} (hg : Grd n m M) (hL : FormOf (M.getD 0 []).length M L) (hl : ∀ r ∈ L, Lim r) (w : World) (v : Value) (h : MatAt w v L) (hG : GOk w) :
    Calls Tryz.prog 12 #[v] w fun e w' => ∃ u, e = .returned (.tuple #[u, .int .i64 0]) ∧ MatO w' w.heap.size u L ∧ Below w.heap.size w w' := by
  have hr := hL.rank_le
  have hh : (M.getD 0 []).length ≤ 4 := hg.head
  have hLn : ∀ r ∈ L, r.length = (M.getD 0 []).length := hL.len
  have hc : chkM L = 0 := right_of (by have := hg.len; have := hg.m4; omega) (by omega) hLn hl
  have e := head_n hLn
  have hself : FormOf (L.getD 0 []).length L L := by
    rw [e]
    by_cases h0 : L.length = 0
    · rw [if_pos h0]
      have : L = [] := List.eq_nil_of_length_eq_zero h0
      subst this
      exact FormOf.empty (by simp)
    · rw [if_neg h0]; exact hL.self
  refine (form_any w v L h (Nat.le_trans (dg_four (by rw [e]; split <;> omega)) (by decide)) hG).mono ?_
  rintro e' w' ⟨h1 | ⟨_, L', hL', h2⟩, hb⟩
  · exact absurd hc h1.1
  · obtain rfl := hself.unique hL'
    rcases h2 with ⟨_, u, he, hm⟩ | ⟨hn, _⟩
    · exact ⟨u, he, hm, hb⟩
    · exact absurd hl hn
/-- The rows that are turned have the same form. -/
theorem form_turned {n m : Nat} {M L S : List (List Int)} (hg : Grd n m M) (hL : FormOf (M.getD 0 []).length M L) (hl : ∀ r ∈ L, Lim r) (hS : ∀ r ∈ S, r.length = (M.getD 0 []).length) (hs0 : S.length = 0 → M.length = 0) (hs5 : S.length ≤ 5) (hsl : ∀ r ∈ S, Lim r)
    (hsame : Hnf.Same (S.map Ln.xrow) (M.map Ln.xrow)) (w : World) (v : Value) (h : MatAt w v S) (hG : GOk w) :
    Calls Tryz.prog 12 #[v] w fun e w' => ∃ u, e = .returned (.tuple #[u, .int .i64 0]) ∧ MatO w' w.heap.size u L ∧ Below w.heap.size w w' := by
  have hh : (M.getD 0 []).length ≤ 4 := hg.head
  have e : (S.getD 0 []).length = (M.getD 0 []).length := by
    rw [head_n hS]
    split
    · rename_i h0
      rw [head_n hg.row, if_pos (hs0 h0)]
    · rfl
  have hc : chkM S = 0 := right_of (by omega) (by omega) hS hsl
  refine (form_any w v S h (Nat.le_trans (dg_four (by rw [e]; exact hh)) (by decide)) hG).mono ?_
  rintro e' w' ⟨h1 | ⟨_, L', hL', h2⟩, hb⟩
  · exact absurd hc h1.1
  · rw [e] at hL'
    obtain rfl := (hL.of_same hsame).unique hL'
    rcases h2 with ⟨_, u, he, hm⟩ | ⟨hn, _⟩
    · exact ⟨u, he, hm, hb⟩
    · exact absurd hl hn
theorem contains_row {n m : Nat} {M L : List (List Int)} (hg : Grd n m M) (hL : FormOf (M.getD 0 []).length M L) (hl : ∀ r ∈ L, Lim r) {x : List Int} (hx : x ∈ M) (w : World) (vf vx : Value) (h : MatAt w vf L) (hr : RowAt w vx x) (hG : GOk w) :
    Calls Tryz.prog 18 #[vf, vx] w fun e w' => e = .returned (.tuple #[.bool true, .int .i64 0]) ∧ Below w.heap.size w w' := by
  have hrk := hL.rank_le
  have hh : (M.getD 0 []).length ≤ 4 := hg.head
  have hM : (M.getD 0 []).length = n := by rw [head_n hg.row, if_neg]; intro h0; have := List.length_pos_of_mem hx; omega
  have hLn : ∀ r ∈ L, r.length = n := fun r hr => (hL.len r hr).trans hM
  have hc : chkM L = 0 := right_of (by have := hg.len; have := hg.m4; omega) (by omega) hLn hl
  have hxl := hg.row x hx
  have hop : openE L x = 0 := by
    unfold openE
    have hx0 : chkR x = 0 := by
      unfold chkR
      rw [if_neg (by omega), if_pos (show Lim x from fun y hy => by have := hg.small x hx y hy; omega)]
    rw [if_neg (by rw [hc]; simp), if_neg (by rw [formB_of hL]; simp), if_neg (by rw [hx0]; simp), if_neg]
    rintro ⟨h1, h2⟩
    rw [head_n hLn, if_neg (by omega)] at h2
    exact h2 hxl
  refine (Contains_any w vf vx L x h hr hG).mono ?_
  rintro e w' ⟨h1 | ⟨_, h1⟩, hb, _⟩
  · exact absurd hop h1.1
  · have hh : (!(decide (0 ≤ pv (redL L x).1))) = true := (hasB_iff hL (fun _ => hxl.trans hM.symm)).2 (hL.mem hx)
    exact ⟨by rw [h1, hh], hb⟩

theorem copy_row {w w' : World} {n : Nat} {v : Value} {xs : List Value} (h : w'.ownsRow w.heap.size 3 1 v (0 + n) ([] ++ xs)) (hg : (w.alloc (.cells #[] 3)).grownBy w' (Value.ownBlock (.slice (some ⟨w.heap.size, 0, none⟩) 0 0))) (hn : 1 ≤ n) :
    ∃ g c, v = .slice (some ⟨g, 0, none⟩) n c ∧ Below w.heap.size w w' ∧ (w'.ownsRow w.heap.size 3 1 (.slice (some ⟨g, 0, none⟩) n c) n xs ∧ w.heap.size ≤ g) ∧ w.heap.size + 1 ≤ w'.heap.size := by
  rw [Nat.zero_add, List.nil_append] at h
  have hs := hg.size
  rw [alloc_size] at hs
  have hbel : Below w.heap.size w w' := by
    have h1 := nb_alloc w (.cells #[] 3)
    refine ⟨hg.os.trans h1.os, hg.tape.trans h1.tape, hg.output.trans h1.output, by omega, fun i hi => ?_⟩
    refine (hg.block i (by rw [alloc_size]; omega) (fun e => ?_)).trans (h1.block i hi)
    injection e with e
    have e : i = w.heap.size := e
    omega
  rcases h.2 with ⟨_, h0⟩ | ⟨g, cap, cur, hv, hB, hr⟩
  · omega
  · subst hv
    exact ⟨g, cap, rfl, hbel, ⟨h, hB⟩, hs⟩

theorem zero_row {w w' : World} {n : Nat} (h : w'.ownsRow w.heap.size 3 1 (.slice (some ⟨w.heap.size, 0, none⟩) n n) n (madeCells (Value.cells (.int .i64 0)) (n * 1)).toList) (hg : w.grownBy w' none) :
    w'.ownsRow w.heap.size 3 1 (.slice (some ⟨w.heap.size, 0, none⟩) n n) n (ints (List.replicate n 0)) ∧ Below w.heap.size w w' := by
  refine ⟨?_, ⟨hg.os, hg.tape, hg.output, hg.size, fun i hi => hg.block i hi (by simp)⟩⟩
  have e : (madeCells (Value.cells (.int .i64 0)) (n * 1)).toList = ints (List.replicate n 0) := by
    apply List.ext_getElem
    · simp [madeCells, ints, Value.cells]
    · intro i h1 h2
      simp [madeCells, ints, Value.cells, Nat.mod_one]
  rw [e] at h
  exact h

set_option maxRecDepth 100000 in
set_option maxHeartbeats 6400000 in
theorem keeps_any (w : World) (v : Value) (r c : Nat) (E : Nat → Int) (A : Array Value) (o by_ : Nat) (hv : GridAt v r c E A) (ho : o < 256) (hby : by_ < 256) (hG : GOk w) :
    Calls Tryz.prog 4 #[v, .int .u8 o, .int .u8 by_] w fun e w' => e = .returned (.bool true) ∧ Below w.heap.size w w' := by
  obtain ⟨i0, hi0, hz0, hz1, hz2⟩ := info_parts Tryz.infoI
  obtain ⟨j0, hj0, hy0, hy1, hy2⟩ := info_parts Tryz.infoR
  have KN := Lib.hid (fun W hg => known_any W hg)
  have MK := Lib.hid (fun W => make_any W v r c E A hv)
  obtain ⟨M, hM⟩ : ∃ M, M = makeL r c E := ⟨_, rfl⟩
  obtain ⟨m, hm⟩ : ∃ m, m = r % 5 := ⟨_, rfl⟩
  obtain ⟨n, hn⟩ : ∃ n, n = 1 + c % 4 := ⟨_, rfl⟩
  have hgrd : Grd n m M := by rw [hM, hm, hn]; exact makeL_grd r c E
  rw [← hM] at MK
  clear hM hm hn
  have FO := Lib.hid (fun W u (h : MatAt W u M) hg => form_grd W u n m M h hgrd hg)
  obtain ⟨rfl, hsz, -, -, -, -, -⟩ := hv
  have HB := Lib.hid (nb_alloc w (.cells A 25))
  obtain ⟨g, hg⟩ : ∃ g, g = w.heap.size := ⟨_, rfl⟩
  obtain ⟨w1, hw1⟩ : ∃ w1, w1 = w.alloc (.cells A 25) := ⟨_, rfl⟩
  rw [← hw1] at HB
  have hA1 : Hid (w1.heap[g]? = some (.cells A 25 (0, 0))) := Lib.hid (by rw [hw1, hg]; simp [World.alloc, -World.alloc_eq])
  have HSZ : Hid ((Tryz.prog.info? 25).map (·.size) = some A.size) := Lib.hid (by rw [hsz]; kernel_rfl)
  have HG := Lib.hid hg.symm
  have HW := Lib.hid hw1.symm
  have HGR := Lib.hid hgrd
  have HG1 := Lib.hid (hG.below HB.out)
  have EQ := Lib.hid (fun W va vb (A : List (List Int)) (ha : MatAt W va A) (hb : MatAt W vb A) => eq_same W va vb A ha hb)
  clear hsz hg hw1 hgrd hG
  go_enter Tryz.func4, Tryz.ntmps4
  go_upto_region 1 with fail
  rw [HW.out, HG.out]
  go_upto_region 5 with (first
    | (refine wpList_load_row rfl 25 _ rfl g rfl _ A (0, 0) _ hgr.out Tryz.underlying25 rfl HSZ.out ?_)
    | (go_at_call 10; refine (KN.out _ HG1.out).mono ?_; rintro e wk ⟨rfl, hbk, hgk⟩; have hgr := Lib.hid ((hbk.block g (Array.getElem?_eq_some_iff.1 hA1.out).1).trans hA1.out))
    | (go_at_call 11; refine (MK.out _).mono ?_; rintro e wm ⟨u, rfl, hmo, hbm⟩; have hma := hmo.at_; have hgm := hgk.below hbm; have HMA := Lib.hid hma; clear hma hmo)
    | (go_at_call 12; refine (FO.out _ _ HMA.out hgm).mono ?_; rintro e wf ⟨uf, L, rfl, hfo, hL, hl, hbf⟩; have hgf := hgm.below hbf; have HF := Lib.hid (And.intro hL hl); have HFA := Lib.hid hfo.at_; clear hL hl hfo))
  have IFm : Hid (∀ W, Below wf.heap.size wf W → Calls Tryz.prog 16 #[uf] W fun e w' => e = .returned (.tuple #[.bool true, .int .i64 0]) ∧ Below W.heap.size W w') := Lib.hid (fun W hW => (isForm_out W uf L (HFA.out.nb hW)).mono (by
    rintro e w' ⟨h1 | h1, hb⟩
    · refine absurd ?_ h1.1
      have hr := HF.out.1.rank_le
      exact right_of (by have := HGR.out.len; have := HGR.out.m4; omega) (by have := HGR.out.head; omega) HF.out.1.len HF.out.2
    · rw [formB_of HF.out.1] at h1; exact ⟨h1.2, hb⟩))
  have FA := Lib.hid (fun W (hW : Below wf.heap.size wf W) => form_again HGR.out HF.out.1 HF.out.2 W uf (HFA.out.nb hW) (hgf.below hW))
  go_upto_region 9 with (first
    | (go_at_call 16; refine (IFm.out _ (nb_refl _)).mono ?_; rintro e w2 ⟨rfl, hb2⟩)
    | (go_at_call 12; refine (FA.out _ hb2).mono ?_; rintro e w3 ⟨u3, rfl, hm3, hb3⟩; have hb23 := nb_trans hb2 hb3; have HM3 := Lib.hid hm3.at_; clear hm3)
    | (go_at_call 17; refine (EQ.out _ _ _ _ (HFA.out.nb hb23) HM3.out).mono ?_; rintro e w4 ⟨rfl, hb4⟩))
  have hb24 := nb_trans hb23 hb4
  have HM : Hid (MatAt w4 u M) := Lib.hid ((HMA.out.nb hbf).nb hb24)
  obtain ⟨pm, cm, hue, hmc, hm63⟩ := HM.out.slice_
  rw [HGR.out.len] at hue hmc hm63
  subst hue
  have hm4 := HGR.out.m4
  have hn4 := HGR.out.n4
  have HBF : Hid (Below w1.heap.size w1 w4) := Lib.hid (nb_trans hbk (nb_trans hbm (nb_trans hbf hb24)))
  have HGF := Lib.hid (hgf.below hb24)
  have HFA4 := Lib.hid (HFA.out.nb hb24)
  clear hgr hbk hgk hbm hgm hbf hgf hb24 HMA HFA KN MK FO hA1 IFm FA hb2 hb3 hb23 hb4 HM3
  have hml : M.length = m := HGR.out.len
  have HML := Lib.hid hml
  clear hml
  go_wp2_with fail
  go_loopw [14, 15] (fun s14 s15 wr => ∃ k : Nat, k ≤ m ∧ s15 = .int .i64 k ∧ Hid (∃ rs, Cps wr w4.heap.size s14 rs ∧ rs.map IR.x = rotL M o k) ∧ Below w4.heap.size w4 wr) (fun _ s15 _ => m - (intOf s15).toNat)
  case atStart => exact ⟨0, Nat.zero_le _, rfl, ⟨[], Cps.start _ _, rfl⟩, nb_refl _⟩
  case round =>
    obtain ⟨k, hk, rfl, hst, hb⟩ := hrel
    obtain ⟨vo, hvo⟩ : ∃ x, x = u14 := ⟨_, rfl⟩
    subst hvo
    by_cases hkm : k < m
    · obtain ⟨i, hi⟩ : ∃ i, i = (k + o) % m := ⟨_, rfl⟩
      have him : i < m := by rw [hi]; exact Nat.mod_lt _ (by omega)
      have hrem : ((k : Int) + (o : Int)) % (m : Int) = (i : Int) := by rw [hi, Int.natCast_emod, Int.natCast_add]
      obtain ⟨rs, hcp, hrx⟩ := hst.out
      have hrl : rs.length = k := by rw [← List.length_map (f := IR.x), hrx, rotL_len]
      have HCP := Lib.hid hcp
      have HRX := Lib.hid hrx
      have HRL := Lib.hid hrl
      have HI := Lib.hid hi
      obtain ⟨bm, om, ui, uk, rfl, hui4, hri4, huk4, hrk4⟩ : ∃ bm om ui uk, pm = some ⟨bm, om, none⟩ ∧ w4.cell? ⟨bm, om + i, none⟩ = some ui ∧ RowAt w4 ui (M.getD i []) ∧ w4.cell? ⟨bm, om + k, none⟩ = some uk ∧ RowAt w4 uk (M.getD k []) := by
        obtain ⟨p', c', e, _, _, h4⟩ := HM.out
        cases e
        obtain ⟨b, o1, u1, e1, e2, e3⟩ := h4 i (by rw [HML.out]; exact him)
        obtain ⟨b', o2, u2, f1, f2, f3⟩ := h4 k (by rw [HML.out]; exact hkm)
        rw [e1] at f1
        cases f1
        exact ⟨b, o1, u1, u2, e1, e2, e3, f2, f3⟩
      have hui := cellB hb hui4
      have hri := hri4.nb hb
      have HUK := Lib.hid huk4
      have hrm := getD_mem [] (show i < M.length by rw [HML.out]; exact him)
      have hil := HGR.out.row _ hrm
      have HIS := Lib.hid (HGR.out.small _ hrm)
      obtain ⟨br, or_, cr, hue, hrc, hrcells⟩ := hri.open_ (by rw [hil]; omega)
      rw [hil] at hue hrcells
      subst hue
      have HRC := Lib.hid hrcells
      have HRI := Lib.hid hri
      obtain ⟨pk, ck, hke, -, -⟩ := hrk4.slice_
      have hkl := HGR.out.row _ (getD_mem [] (show k < M.length by rw [HML.out]; exact hkm))
      rw [hkl] at hke
      subst hke
      have CO : Hid (∀ W, Below w4.heap.size w4 W → Calls Tryz.prog 18 #[uf, .slice pk n ck] W fun e w' => e = .returned (.tuple #[.bool true, .int .i64 0]) ∧ Below W.heap.size W w') := Lib.hid (fun W hW =>
        contains_row HGR.out HF.out.1 HF.out.2 (getD_mem [] (show k < M.length by rw [HML.out]; exact hkm)) W _ _ (HFA4.out.nb hW) (hrk4.nb hW) (HGF.out.below hW))
      have hsz := hb.size
      have HOWN0 : Hid (vo = vo ∧ wr.ownsRow w4.heap.size 35 1 vo k (rs.map IR.v)) := Lib.hid ⟨rfl, by have := hcp.own; rw [hrl] at this; exact this⟩
      clear hcp hrx hrl hi hst hrm hil hrcells hri hri4 hrk4 hkl hrc hui4 huk4
      have hui1 := cellB (nb_alloc wr (.cells #[] 3)) hui
      have hown0 : (wr.alloc (.cells #[] 3)).ownsRow wr.heap.size 3 1 (.slice (some ⟨wr.heap.size, 0, none⟩) 0 0) 0 [] := World.ownsRow_made wr #[] 0 (Nat.le_refl _) (by unfold maxLen; omega) rfl
      have HO0 := Lib.hid hown0
      have HNEW : Hid ((∀ (j : Nat) (u : Value), (ints (M.getD i []))[j]? = some u → (wr.alloc (.cells #[] 3)).cell? ((⟨br, or_, none⟩ : Addr).add j) = some u) ∧ (ints (M.getD i [])).length = n) := Lib.hid (by
        refine ⟨fun j u hj => ?_, by rw [ints, List.length_map]; exact HGR.out.row _ (getD_mem [] (by rw [HML.out]; exact him))⟩
        have hjl : j < (M.getD i []).length := by
          rcases Nat.lt_or_ge j (M.getD i []).length with h | h
          · exact h
          · rw [List.getElem?_eq_none (by rw [ints, List.length_map]; exact h)] at hj; cases hj
        have e : u = .int .i64 ((M.getD i []).getD j 0) := by
          unfold ints at hj
          rw [List.getElem?_map, List.getElem?_eq_getElem hjl] at hj
          rw [List.getD_eq_getElem?_getD, List.getElem?_eq_getElem hjl]
          injection hj with hj
          exact hj.symm
        rw [e]
        have := cellB (nb_alloc wr (.cells #[] 3)) (HRC.out j (by rw [← HGR.out.row _ (getD_mem [] (show i < M.length by rw [HML.out]; exact him))]; exact hjl))
        rw [show ((⟨br, or_, none⟩ : Addr).add j) = ⟨br, or_ + j, none⟩ from by cases j <;> simp [Addr.add]]
        exact this)
      go_upto_region 14 with (first
        | (at_builtin; have _t := hcp5; refine wpList_append_own _ rfl _ _ 29 rfl w4.heap.size 35 j0 (.slice none 0 0) 1 24 Tryz.underlying29 hj0 hy0 hy1 hy2 rfl (by decide) vo k (rs.map IR.v) rfl (own_nb2 HOWN0.out.2 (nb_trans hb5 (nb_alloc _ _))) ⟨w5.heap.size, 0, none⟩ 1 1 [.slice (some ⟨g5, 0, none⟩) n c5] rfl rfl (cell_one_new _ _ _) (by intro y hy; simp at hy; subst hy; rfl) (by unfold maxLen; omega) (by omega) (by rw [alloc_size]; omega) ?_; intro v' w6 hown6 hgrow6 hnil6)
        | (at_builtin; refine wpList_append_own _ rfl _ _ 35 rfl wr.heap.size 3 i0 (.int .i64 0) 1 8 Tryz.underlying35 hi0 hz0 hz1 hz2 rfl (by decide) (.slice (some ⟨wr.heap.size, 0, none⟩) 0 0) 0 [] rfl HO0.out ⟨br, or_, none⟩ n cr (ints (M.getD i [])) rfl (by rw [HNEW.out.2, Nat.mul_one]) HNEW.out.1 (by intro u hu; unfold ints at hu; obtain ⟨y, _, rfl⟩ := List.mem_map.1 hu; rfl) (by unfold maxLen; omega) (by omega) (by rw [alloc_size]; omega) ?_; intro v5 w5 hown5 hgrow5 hnil5; obtain ⟨g5, c5, rfl, hb5, hcp5, hs5⟩ := copy_row hown5 hgrow5 hn4.1))
      have HLO : Hid (∀ k, vo.ownBlock = some k → w4.heap.size ≤ k) := Lib.hid (fun k hk => (HOWN0.out.2.lt k hk).1)
      have HB6 : Hid (Below w4.heap.size w4 w6 ∧ True) := Lib.hid ⟨grown_pre (hb.trans (hb5.mono hb.size)) HLO.out hgrow6 (Nat.le_refl _), trivial⟩
      have HC6 : Hid (Cps w6 w4.heap.size v' (rs ++ [⟨g5, c5, M.getD i []⟩])) := Lib.hid (by
        have hC := (HCP.out.nb hb5).nb (nb_alloc w5 (.cells #[Value.slice (some ⟨g5, 0, none⟩) n c5] 35))
        have hxl := HGR.out.row _ (getD_mem [] (show i < M.length by rw [HML.out]; exact him))
        have ho5 : w5.ownsRow w4.heap.size 3 1 (IR.mk g5 c5 (M.getD i [])).v (M.getD i []).length (ints (M.getD i [])) := by
          show w5.ownsRow w4.heap.size 3 1 (.slice (some ⟨g5, 0, none⟩) (M.getD i []).length c5) _ _
          rw [hxl]
          exact own_low hcp5.1 hb.size
        refine hC.push ⟨g5, c5, M.getD i []⟩ (own_nb2 ho5 (nb_alloc _ _)) ?_ ?_ hgrow6 ?_
        · intro y hy
          have := HIS.out y hy
          unfold I64; omega
        · intro q hq e
          have h1 := HCP.out.lt hq
          have h2 := hcp5.2
          rw [e] at h1
          exact absurd h1 (Nat.not_lt.2 h2)
        · rw [HRL.out, show (IR.mk g5 c5 (M.getD i [])).v = Value.slice (some ⟨g5, 0, none⟩) n c5 by show Value.slice (some ⟨g5, 0, none⟩) (M.getD i []).length c5 = _; rw [hxl]]
          exact hown6)
      have HX6 : Hid ((rs ++ [IR.mk g5 c5 (M.getD i [])]).map IR.x = rotL M o (k + 1)) := Lib.hid (by rw [List.map_append, HRX.out, rotL_succ, HML.out, ← HI.out]; rfl)
      have huk6 := cellB HB6.out.1 HUK.out
      have hb6 := HB6.out.1
      clear hown6 hgrow6 hnil6 hown5 hgrow5 hnil5 hui1 hown0
      go_wp2_with (go_at_call 18; refine (CO.out _ hb6).mono ?_; rintro e w7 ⟨rfl, hb7⟩)
      go_roundw
      case rel => exact ⟨k + 1, by omega, by go_num, ⟨_, HC6.out.nb hb7, HX6.out⟩, hb6.trans (hb7.mono hb6.size)⟩
      case measure => (simp [intOf]) <;> omega
    · obtain rfl : k = m := by omega
      obtain ⟨rs, hcp, hrx⟩ := hst.out
      have hrl : rs.length = k := by rw [← List.length_map (f := IR.x), hrx, rotL_len]
      have HROW : Hid (∀ r ∈ rotL M o k, r.length = n ∧ ∀ x ∈ r, -20 ≤ x ∧ x ≤ 20) := Lib.hid (rotL_row HGR.out o k (by rw [HML.out]; exact Nat.le_refl _))
      have HSAME : Hid (Hnf.Same ((rotL M o k).map Ln.xrow) (M.map Ln.xrow)) := Lib.hid (by have := rot_same M o; rw [HML.out] at this; exact this)
      have HFR : Hid (∀ (S : List (List Int)), (∀ r ∈ S, r.length = n) → S.length ≤ 5 → (S.length = 0 → k = 0) → (k = 0 → S.length = 0) → (∀ r ∈ S, Lim r) → Hnf.Same (S.map Ln.xrow) (M.map Ln.xrow) → ∀ W v', Below w4.heap.size w4 W → MatAt W v' S →
          Calls Tryz.prog 12 #[v'] W fun e w' => ∃ u, e = .returned (.tuple #[u, .int .i64 0]) ∧ MatO w' W.heap.size u L ∧ Below W.heap.size W w') := Lib.hid (by
        intro S h1 h2 h3 h4 h5 h6 W v' hW hm
        refine form_turned HGR.out HF.out.1 HF.out.2 ?_ (fun h0 => by rw [HML.out]; exact h3 h0) h2 h5 h6 W v' hm (HGF.out.below hW)
        intro r hr
        rw [h1 r hr, head_n HGR.out.row, HML.out, if_neg]
        intro h0
        have := List.length_pos_of_mem hr
        have := h4 h0
        omega)
      have HBW : Hid (Below w.heap.size w w4) := Lib.hid (HB.out.trans (HBF.out.mono HB.out.size))
      by_cases hk2 : k ≤ 1
      · obtain ⟨pv, cv, hvo⟩ := own_slice hcp.own
        have hmat := hcp.mat
        rw [hrx] at hmat
        rw [hvo, hrl] at hmat
        rw [hrl] at hvo
        subst hvo
        have FT : Hid (Calls Tryz.prog 12 #[.slice pv k cv] wr fun e w' => ∃ u, e = .returned (.tuple #[u, .int .i64 0]) ∧ MatO w' wr.heap.size u L ∧ Below wr.heap.size wr w') := Lib.hid (by
          refine HFR.out (rotL M o k) (fun r hr => (HROW.out r hr).1) (by rw [rotL_len]; omega) (fun h => by rw [rotL_len] at h; exact h) (fun h => by rw [rotL_len]; exact h) ?_ HSAME.out wr _ hb hmat
          intro r hr x hx
          have := (HROW.out r hr).2 x hx
          omega)
        clear hcp hrx hrl hmat hst
        go_wp2_with (first
          | (go_at_call 12; refine FT.out.mono ?_; rintro e w5 ⟨u5, rfl, hm5, hb5⟩; have HM5 := Lib.hid hm5.at_; clear hm5)
          | (go_at_call 17; refine (EQ.out _ _ _ _ ((HFA4.out.nb hb).nb hb5) HM5.out).mono ?_; rintro e w6 ⟨rfl, hb6⟩))
        go_ret
        exact ⟨rfl, HBW.out.trans ((nb_trans hb (nb_trans hb5 hb6)).mono HBW.out.size)⟩
      · obtain ⟨r0, r1, R, rfl⟩ : ∃ r0 r1 R, rs = r0 :: r1 :: R := by
          match rs, hrl with
          | [], h => exact absurd h (by simp; omega)
          | [_], h => exact absurd h (by simp; omega)
          | r0 :: r1 :: R, _ => exact ⟨r0, r1, R, rfl⟩
        have hx0 : r0.x ∈ rotL M o k := by rw [← hrx]; simp
        have hx1 : r1.x ∈ rotL M o k := by rw [← hrx]; simp
        have hl0 := (HROW.out _ hx0).1
        have hl1 := (HROW.out _ hx1).1
        have HS0 := Lib.hid (HROW.out _ hx0).2
        have HS1 := Lib.hid (HROW.out _ hx1).2
        obtain ⟨G, cap, hvo, hGB, hcap, hcells⟩ := hcp.head (by simp)
        rw [hrl] at hvo hcap
        subst hvo
        obtain ⟨t, ht⟩ : ∃ t : Int, t = (by_ : Int) % 9 - 4 := ⟨_, rfl⟩
        have htb : -4 ≤ t ∧ t ≤ 4 := by omega
        have HRX : Hid (r0.x :: r1.x :: R.map IR.x = rotL M o k) := Lib.hid hrx
        have HRL : Hid (R.length + 2 = k) := Lib.hid hrl
        have HC0 : Hid (Cps wr w4.heap.size (.slice (some ⟨G, 0, none⟩) k cap) ({ r0 with x := mixA t 0 r0.x r1.x } :: { r1 with x := mixB 0 r1.x } :: R)) := Lib.hid (by rw [mixA_zero, mixB_zero]; exact hcp)
        have HL := Lib.hid (And.intro hl0 hl1)
        have HT := Lib.hid ht
        clear hcp hrx hrl hx0 hx1 hl0 hl1 hcells hst ht
        obtain ⟨w5, hw5⟩ : ∃ x, x = wr := ⟨_, rfl⟩
        subst hw5
        go_wp2_with fail
        go_loopw [18] (fun s18 wr => ∃ c : Nat, c ≤ n ∧ s18 = .int .i64 c ∧ Hid (Cps wr w4.heap.size (.slice (some ⟨G, 0, none⟩) k cap) ({ r0 with x := mixA t c r0.x r1.x } :: { r1 with x := mixB c r1.x } :: R)) ∧ Below w4.heap.size w4 wr) (fun s18 _ => n - (intOf s18).toNat)
        case atStart => exact ⟨0, Nat.zero_le _, rfl, HC0, hb⟩
        case round =>
          obtain ⟨c, hc, rfl, hst, hbc⟩ := hrel
          obtain ⟨hg0, hg1⟩ : wr.cell? ⟨G, 0, none⟩ = some (.slice (some ⟨r0.g, 0, none⟩) n r0.c) ∧ wr.cell? ⟨G, 1, none⟩ = some (.slice (some ⟨r1.g, 0, none⟩) n r1.c) := by
            obtain ⟨G', cap', hv', _, _, hcl⟩ := hst.out.head (by simp)
            cases hv'
            have h0 := hcl 0 (by simp)
            have h1 := hcl 1 (by simp)
            simp only [List.getElem_cons_zero, List.getElem_cons_succ, IR.v, mixA_len, mixB_len, HL.out.1, HL.out.2] at h0 h1
            exact ⟨h0, h1⟩
          by_cases hcn : c < n
          · obtain ⟨x, hx⟩ : ∃ x, x = r0.x.getD c 0 := ⟨_, rfl⟩
            obtain ⟨y, hy⟩ : ∃ y, y = r1.x.getD c 0 := ⟨_, rfl⟩
            have hxb := HS0.out _ (getD_mem 0 (show c < r0.x.length by rw [HL.out.1]; exact hcn))
            have hyb := HS1.out _ (getD_mem 0 (show c < r1.x.length by rw [HL.out.2]; exact hcn))
            rw [← hx] at hxb
            rw [← hy] at hyb
            have hty : -80 ≤ t * y ∧ t * y ≤ 80 := by
              have h3 : (t * y).natAbs ≤ 4 * 20 := Hnf.abs_mul (by omega) (by omega)
              omega
            have hq0 : wr.cell? ⟨r0.g, c, none⟩ = some (.int .i64 x) := by
              have := hst.out.cell (r := { r0 with x := mixA t c r0.x r1.x }) (by simp) (j := c) (by simp only [mixA_len, HL.out.1]; exact hcn)
              simp only at this
              rw [mixA_at _ _ _ _ (by rw [HL.out.1]; exact hcn), if_neg (by omega), ← hx] at this
              exact this
            have hq1 : wr.cell? ⟨r1.g, c, none⟩ = some (.int .i64 y) := by
              have := hst.out.cell (r := { r1 with x := mixB c r1.x }) (by simp) (j := c) (by simp only [mixB_len, HL.out.2]; exact hcn)
              simp only at this
              rw [mixB_at _ _ (by rw [HL.out.2]; exact hcn), if_neg (by omega), ← hy] at this
              exact this
            have hf0 : wr.frozen? ⟨r0.g, c, none⟩ = false := hst.out.frozen (r := { r0 with x := mixA t c r0.x r1.x }) (by simp) c
            have HCa : Hid (Cps (wr.setCell ⟨r0.g, c, none⟩ (.int .i64 (x + t * y))) w4.heap.size (.slice (some ⟨G, 0, none⟩) k cap) ({ r0 with x := mixA t (c + 1) r0.x r1.x } :: { r1 with x := mixB c r1.x } :: R)) := Lib.hid (by
              have := hst.out.set (P := []) c (x + t * y) (by unfold I64; omega)
              simp only [List.nil_append, hx, hy] at this
              rw [mixA_set _ _ _ _ (by rw [HL.out.1]; exact hcn)] at this
              rw [hx, hy]
              exact this)
            have HBa : Hid (Below w4.heap.size w4 (wr.setCell ⟨r0.g, c, none⟩ (.int .i64 (x + t * y)))) := Lib.hid (hbc.setCell (hst.out.low (r := { r0 with x := mixA t c r0.x r1.x }) (by simp)) _)
            have htt : (by_ : Int) % 9 - 4 = t := HT.out.symm
            have HY := Lib.hid hy
            have hcn' : (c : Int) < (n : Int) := by omega
            clear hx hy hst
            go_wp2_with fail
            go_cut [125] (fun _ wx => Hid (Cps wx w4.heap.size (.slice (some ⟨G, 0, none⟩) k cap) ({ r0 with x := mixA t (c + 1) r0.x r1.x } :: { r1 with x := mixB c r1.x } :: R)) ∧ Below w4.heap.size w4 wx)
            case first =>
              go_region
              go_wp2_with fail
              go_meet
              exact ⟨HCa.out.nb (nb_drew _), HBa.out.trans ((nb_drew _).mono HBa.out.size)⟩
            case rest =>
              obtain ⟨hst, hbx⟩ := hcut
              clear hg0 hg1 hq0 hq1 hf0 hbc HCa HBa
              have hg1 : wc.cell? ⟨G, 1, none⟩ = some (.slice (some ⟨r1.g, 0, none⟩) n r1.c) := by
                obtain ⟨G', cap', hv', _, _, hcl⟩ := hst.out.head (by simp)
                cases hv'
                have h1 := hcl 1 (by simp)
                simp only [List.getElem_cons_zero, List.getElem_cons_succ, IR.v, mixB_len, HL.out.2] at h1
                exact h1
              have hq1 : wc.cell? ⟨r1.g, c, none⟩ = some (.int .i64 y) := by
                have := hst.out.cell (r := { r1 with x := mixB c r1.x }) (by simp) (j := c) (by simp only [mixB_len, HL.out.2]; exact hcn)
                simp only at this
                rw [mixB_at _ _ (by rw [HL.out.2]; exact hcn), if_neg (by omega), ← HY.out] at this
                exact this
              have hf1 : wc.frozen? ⟨r1.g, c, none⟩ = false := hst.out.frozen (r := { r1 with x := mixB c r1.x }) (by simp) c
              have HCb : Hid (Cps (wc.setCell ⟨r1.g, c, none⟩ (.int .i64 (-y))) w4.heap.size (.slice (some ⟨G, 0, none⟩) k cap) ({ r0 with x := mixA t (c + 1) r0.x r1.x } :: { r1 with x := mixB (c + 1) r1.x } :: R)) := Lib.hid (by
                have := hst.out.set (P := [{ r0 with x := mixA t (c + 1) r0.x r1.x }]) c (-y) (by unfold I64; omega)
                simp only [List.cons_append, List.nil_append, HY.out] at this
                rw [mixB_set _ _ (by rw [HL.out.2]; exact hcn)] at this
                rw [HY.out]
                exact this)
              have HBb : Hid (Below w4.heap.size w4 (wc.setCell ⟨r1.g, c, none⟩ (.int .i64 (-y)))) := Lib.hid (hbx.setCell (hst.out.low (r := { r1 with x := mixB c r1.x }) (by simp)) _)
              clear hst hbx
              go_wp2_with fail
              go_region
              go_wp2_with fail
              go_roundw
              case rel => exact ⟨c + 1, by omega, by go_num, HCb.out.nb (nb_drew _), HBb.out.trans ((nb_drew _).mono HBb.out.size)⟩
              case measure => (simp [intOf]) <;> omega
          · obtain rfl : c = n := by omega
            have HCn := Lib.hid hst.out
            have HON : Hid (wr.ownsRow w4.heap.size 35 1 (.slice (some ⟨G, 0, none⟩) k cap) k (({ r0 with x := mixA t c r0.x r1.x } :: { r1 with x := mixB c r1.x } :: R).map IR.v)) := Lib.hid (by
              have := hst.out.own
              simp only [List.length_cons, HRL.out] at this
              exact this)
            have hsz := hbc.size
            clear hst
            go_upto_region 24 with (first
              | (at_make; refine wpList_make_full _ rfl _ _ 35 rfl wr.heap.size 3 i0 (.int .i64 0) 1 Tryz.underlying35 hi0 hz0 hz1 .i64 .i64 _ _ c rfl rfl rfl rfl (by rw [hz2]; omega) (by unfold maxLen; omega) (Nat.le_refl _) ?_; intro W5 hown5 hgrow5; have HO5 := Lib.hid (zero_row hown5 hgrow5); have hs5 := HO5.out.2.size; clear hown5 hgrow5)
              | (at_builtin; refine wpList_append_own _ rfl _ _ 29 rfl w4.heap.size 35 j0 (.slice none 0 0) 1 24 Tryz.underlying29 hj0 hy0 hy1 hy2 rfl (by decide) (.slice (some ⟨G, 0, none⟩) k cap) k _ rfl (own_nb2 HON.out (nb_trans HO5.out.2 (nb_alloc _ _))) ⟨W5.heap.size, 0, none⟩ 1 1 [.slice (some ⟨wr.heap.size, 0, none⟩) c c] rfl rfl (cell_one_new _ _ _) (by intro y hy; simp at hy; subst hy; rfl) (by unfold maxLen; omega) (by omega) (by rw [alloc_size]; omega) ?_; intro v' w6 hown6 hgrow6 hnil6))
            have HB6 : Hid (Below w4.heap.size w4 w6) := Lib.hid (grown_pre (hbc.trans (HO5.out.2.mono hbc.size)) (fun k hk => (HON.out.lt k hk).1) hgrow6 (Nat.le_refl _))
            have HC6 : Hid (Cps w6 w4.heap.size v' (({ r0 with x := mixA t c r0.x r1.x } :: { r1 with x := mixB c r1.x } :: R) ++ [⟨wr.heap.size, c, List.replicate c 0⟩])) := Lib.hid (by
              have hC := (HCn.out.nb HO5.out.2).nb (nb_alloc W5 (.cells #[Value.slice (some ⟨wr.heap.size, 0, none⟩) c c] 35))
              refine hC.push ⟨wr.heap.size, c, List.replicate c 0⟩ (own_nb2 ?_ (nb_alloc _ _)) ?_ ?_ hgrow6 ?_
              · show W5.ownsRow w4.heap.size 3 1 (.slice (some ⟨wr.heap.size, 0, none⟩) (List.replicate c (0 : Int)).length c) (List.replicate c (0 : Int)).length _
                rw [List.length_replicate]
                exact own_low HO5.out.1 hbc.size
              · intro y hy
                rw [List.eq_of_mem_replicate hy]
                decide
              · intro q hq e
                have h1 := HCn.out.lt hq
                rw [e] at h1
                exact absurd h1 (Nat.lt_irrefl _)
              · have e : (({ r0 with x := mixA t c r0.x r1.x } :: { r1 with x := mixB c r1.x } :: R) : List IR).length = k := by simp only [List.length_cons, HRL.out]
                rw [e, show (IR.mk wr.heap.size c (List.replicate c 0)).v = Value.slice (some ⟨wr.heap.size, 0, none⟩) c c by show Value.slice (some ⟨wr.heap.size, 0, none⟩) (List.replicate c (0 : Int)).length c = _; rw [List.length_replicate]]
                exact hown6)
            have hS1 : (r0.x.length = c ∧ r1.x.length = c) := HL.out
            have FT : Hid (Calls Tryz.prog 12 #[v'] w6 fun e w' => ∃ u, e = .returned (.tuple #[u, .int .i64 0]) ∧ MatO w' w6.heap.size u L ∧ Below w6.heap.size w6 w') := Lib.hid (by
              have hmat := HC6.out.mat
              rw [List.map_append, List.map_cons, List.map_cons] at hmat
              have hRr : ∀ r ∈ R.map IR.x, r ∈ rotL M o k := fun r hr => by rw [← HRX.out]; exact List.mem_cons_of_mem _ (List.mem_cons_of_mem _ hr)
              have hin : ∀ r ∈ mixA t c r0.x r1.x :: mixB c r1.x :: R.map IR.x ++ [List.replicate c (0 : Int)], r = mixA t c r0.x r1.x ∨ r = mixB c r1.x ∨ r ∈ R.map IR.x ∨ r = List.replicate c 0 := by
                intro r hr
                rcases List.mem_append.1 hr with h | h
                · rcases List.mem_cons.1 h with h | h
                  · exact .inl h
                  · rcases List.mem_cons.1 h with h | h
                    · exact .inr (.inl h)
                    · exact .inr (.inr (.inl h))
                · exact .inr (.inr (.inr (List.mem_singleton.1 h)))
              refine HFR.out (mixA t c r0.x r1.x :: mixB c r1.x :: R.map IR.x ++ [List.replicate c 0]) ?_ ?_ ?_ ?_ ?_ ?_ w6 v' HB6.out hmat
              · intro r hr
                rcases hin r hr with rfl | rfl | h | rfl
                · rw [mixA_len]; exact hS1.1
                · rw [mixB_len]; exact hS1.2
                · exact (HROW.out r (hRr r h)).1
                · simp
              · have := HRL.out
                simp only [List.length_append, List.length_cons, List.length_map, List.length_nil]
                omega
              · intro h; simp at h
              · intro h; omega
              · intro r hr y hy
                rcases hin r hr with rfl | rfl | h | rfl
                · obtain ⟨j, hj, rfl⟩ := List.getElem_of_mem hy
                  rw [mixA_len] at hj
                  have e := mixA_at t c r0.x r1.x hj
                  rw [List.getD_eq_getElem?_getD, List.getElem?_eq_getElem (by rw [mixA_len]; exact hj)] at e
                  have h0 := HS0.out _ (getD_mem 0 hj)
                  have h1 := HS1.out _ (getD_mem 0 (show j < r1.x.length by omega))
                  have h3 : (t * r1.x.getD j 0).natAbs ≤ 4 * 20 := Hnf.abs_mul (by omega) (by omega)
                  rw [show (mixA t c r0.x r1.x)[j]'(by rw [mixA_len]; exact hj) = _ from e, if_pos (by omega)]
                  omega
                · obtain ⟨j, hj, rfl⟩ := List.getElem_of_mem hy
                  rw [mixB_len] at hj
                  have e := mixB_at c r1.x hj
                  rw [List.getD_eq_getElem?_getD, List.getElem?_eq_getElem (by rw [mixB_len]; exact hj)] at e
                  have h1 := HS1.out _ (getD_mem 0 hj)
                  rw [show (mixB c r1.x)[j]'(by rw [mixB_len]; exact hj) = _ from e, if_pos (by omega)]
                  omega
                · have := (HROW.out r (hRr r h)).2 y hy
                  omega
                · rw [List.eq_of_mem_replicate hy]; decide
              · have h1 := mix_same t (x := r0.x) (y := r1.x) (hS1.2.trans hS1.1.symm) (R.map IR.x) c
                rw [hS1.1, hS1.2] at h1
                refine h1.trans ?_
                rw [HRX.out]
                exact HSAME.out)
            have hb6 := HB6.out
            clear hown6 hgrow6 hnil6
            go_wp2_with (first
              | (go_at_call 12; refine FT.out.mono ?_; rintro e w7 ⟨u7, rfl, hm7, hb7⟩; have HM7 := Lib.hid hm7.at_; clear hm7)
              | (go_at_call 17; refine (EQ.out _ _ _ _ ((HFA4.out.nb hb6).nb hb7) HM7.out).mono ?_; rintro e w8 ⟨rfl, hb8⟩))
            go_ret
            exact ⟨rfl, HBW.out.trans ((nb_trans hb6 (nb_trans hb7 hb8)).mono HBW.out.size)⟩
end Go.Proofs.YtmfkpmepgbjmkaaGreatDoor
