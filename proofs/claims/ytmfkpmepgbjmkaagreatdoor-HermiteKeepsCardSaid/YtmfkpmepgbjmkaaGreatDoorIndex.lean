/-
  WALKS: hermite's Index.
-/
import Derived.Test.YtmfkpmepgbjmkaaGreatDoorG5
set_option linter.unusedVariables false
set_option linter.unusedSimpArgs false
namespace Go.Proofs.YtmfkpmepgbjmkaaGreatDoor
open Go.RowKit

def idxQ (r l : List Int) : Int := Ln.fq (l.getD (pv r).toNat 0) (r.getD (pv r).toNat 0)
/-- The product of the pivots' quotients. -/
def idxL (F L : List (List Int)) (i : Nat) : Int := match i with
  | 0 => 1
  | i + 1 => idxL F L i * idxQ (F.getD i []) (L.getD i [])
/-- What Index answers. -/
def IndexPost (F S : List (List Int)) (w : World) (e : Ending) (w' : World) : Prop :=
  ((pairE F S ≠ 0 ∧ e = .returned (.tuple #[.string ⟨#[]⟩, .bool false, .int .i64 (pairE F S)])) ∨
   (pairE F S = 0 ∧ inclB F S = false ∧ e = .returned (.tuple #[.string ⟨#[]⟩, .bool false, .int .i64 14])) ∨
   (pairE F S = 0 ∧ inclB F S = true ∧ ∃ L, FormOf (S.getD 0 []).length S L ∧
     ((L.length < F.length ∧ e = .returned (.tuple #[.string ⟨#[]⟩, .bool false, .int .i64 0])) ∨ (F.length ≤ L.length ∧ e = .returned (.tuple #[.string (tx (idxL F L F.length)), .bool true, .int .i64 0]))))) ∧ Below w.heap.size w w'

set_option maxRecDepth 100000 in
set_option maxHeartbeats 1600000 in
theorem index_bad (w : World) (vf vs : Value) (F S : List (List Int)) (hF : MatAt w vf F) (hS : MatAt w vs S) (h0 : pairE F S ≠ 0) : Calls Tryz.prog 14 #[vf, vs] w (IndexPost F S w) := by
  have PR := Lib.hid (pair_any w vf vs F S hF hS)
  unfold IndexPost
  obtain ⟨k, hk⟩ : ∃ k, k = pairE F S := ⟨_, rfl⟩
  rw [← hk] at PR h0 ⊢
  have hd : (k != 0) = true := int_bne h0
  have H0 := Lib.hid h0
  clear h0 hk hF hS
  go_enter Tryz.func14, Tryz.ntmps14
  go_wp2_with (go_at_call 50; refine PR.out.mono ?_; rintro e w1 ⟨rfl, hb1⟩)
  go_ret3
  exact ⟨.inl ⟨H0.out, rfl⟩, hb1⟩
set_option maxRecDepth 100000 in
set_option maxHeartbeats 1600000 in
theorem index_out (w : World) (vf vs : Value) (F S : List (List Int)) (hF : MatAt w vf F) (hS : MatAt w vs S) (h0 : pairE F S = 0) (h1 : inclB F S = false) (hG : GOk w) : Calls Tryz.prog 14 #[vf, vs] w (IndexPost F S w) := by
  have PR := Lib.hid (pair_any w vf vs F S hF hS)
  have IN := Lib.hid (fun W (hW : Below w.heap.size w W) => includes_any W vf vs F S _ _ (hF.nb hW) (hS.nb hW) (pairE_zero h0) (hG.below hW))
  unfold IndexPost
  have H0 := Lib.hid h0
  have H1 := Lib.hid h1
  rw [h0] at PR
  rw [h1] at IN
  clear h0 h1 hF hS
  go_enter Tryz.func14, Tryz.ntmps14
  go_wp2_with (first
    | (go_at_call 50; refine PR.out.mono ?_; rintro e w1 ⟨rfl, hb1⟩)
    | (go_at_call 51; refine (IN.out _ hb1).mono ?_; rintro e w2 ⟨rfl, hb2⟩))
  go_ret3
  exact ⟨.inr (.inl ⟨H0.out, H1.out, rfl⟩), nb_trans hb1 hb2⟩
/-- The second matrix has no columns, or no rows. -/
theorem index_flat (w : World) (vf vs : Value) (F S : List (List Int)) (hF : MatAt w vf F) (hS : MatAt w vs S) (h0 : pairE F S = 0) (h1 : inclB F S = true) (hn : (S.getD 0 []).length = 0) (hG : GOk w) : Calls Tryz.prog 14 #[vf, vs] w (IndexPost F S w) := by
  have hP := pairE_zero h0
  have hR := hP.sub
  rw [hn] at hR
  have PR := Lib.hid (pair_any w vf vs F S hF hS)
  have IN := Lib.hid (fun W (hW : Below w.heap.size w W) => includes_any W vf vs F S _ _ (hF.nb hW) (hS.nb hW) (pairE_zero h0) (hG.below hW))
  have CO := Lib.hid (fun W (hW : Below w.heap.size w W) => columns_any W vs S (hS.nb hW))
  have HP : Hid (FormOf 0 S []) := Lib.hid (FormOf.empty hR.row)
  have LN : Hid (∀ W, Below w.heap.size w W → Calls Tryz.prog 46 #[vs] W fun e w' => ∃ p c, e = .returned (.slice p S.length c) ∧ Below W.heap.size W w') := Lib.hid (by
    intro W hW
    by_cases hm : S.length = 0
    · have hM : S = [] := List.eq_nil_of_length_eq_zero hm
      subst hM
      refine (lines_nil W vs (hS.nb hW)).mono ?_
      rintro e w' ⟨rfl, rfl⟩
      exact ⟨none, 0, rfl, nb_refl _⟩
    · refine (lines_flat W vs S S.length rfl (hS.nb hW) hR.row (by omega) (by have := hR.len; omega)).mono ?_
      rintro e w' ⟨G, cap, rfl, _, _, _, hb⟩
      exact ⟨_, cap, rfl, hb⟩)
  have EZ := Lib.hid (fun W v => echelon_zero W v)
  unfold IndexPost
  have H0 := Lib.hid h0
  have H1 := Lib.hid h1
  rw [h0] at PR
  rw [h1] at IN
  rw [hn] at CO ⊢
  obtain ⟨pf, cf, hve, -, -⟩ := hF.slice_
  subst hve
  obtain ⟨nf, hnf⟩ : ∃ n, n = F.length := ⟨_, rfl⟩
  have hnl : nf ≤ 12 := by rw [hnf]; exact hP.right.len
  have HN := Lib.hid hnf
  rw [← hnf] at PR IN ⊢
  clear hnf hR hP hn h0 h1 hF hS
  by_cases hf0 : 0 < nf
  · go_enter Tryz.func14, Tryz.ntmps14
    go_wp2_with (first
      | (go_at_call 50; refine PR.out.mono ?_; rintro e w1 ⟨rfl, hb1⟩)
      | (go_at_call 51; refine (IN.out _ hb1).mono ?_; rintro e w2 ⟨rfl, hb2⟩)
      | (go_at_call 46; refine (LN.out _ (nb_trans hb1 hb2)).mono ?_; rintro e w3 ⟨p, c, rfl, hb3⟩)
      | (go_at_call 48; refine (CO.out _ (nb_trans hb1 (nb_trans hb2 hb3))).mono ?_; rintro e w4 ⟨rfl, hb4⟩)
      | (go_at_call 47; refine (EZ.out _ _).mono ?_; rintro e w5 ⟨rfl, rfl⟩))
    go_ret3
    exact ⟨.inr (.inr ⟨H0.out, H1.out, [], HP.out, .inl ⟨hf0, rfl⟩⟩), nb_trans hb1 (nb_trans hb2 (nb_trans hb3 hb4))⟩
  · obtain rfl : nf = 0 := by omega
    clear hf0
    go_enter Tryz.func14, Tryz.ntmps14
    go_wp2_with (first
      | (go_at_call 50; refine PR.out.mono ?_; rintro e w1 ⟨rfl, hb1⟩)
      | (go_at_call 51; refine (IN.out _ hb1).mono ?_; rintro e w2 ⟨rfl, hb2⟩)
      | (go_at_call 46; refine (LN.out _ (nb_trans hb1 hb2)).mono ?_; rintro e w3 ⟨p, c, rfl, hb3⟩)
      | (go_at_call 48; refine (CO.out _ (nb_trans hb1 (nb_trans hb2 hb3))).mono ?_; rintro e w4 ⟨rfl, hb4⟩)
      | (go_at_call 47; refine (EZ.out _ _).mono ?_; rintro e w5 ⟨rfl, rfl⟩))
    have HB := Lib.hid (nb_trans hb1 (nb_trans hb2 (nb_trans hb3 hb4)))
    clear hb1 hb2 hb3 hb4
    go_loopw [4, 36] (fun s4 s36 wr => s4 = .string ⟨#[49]⟩ ∧ s36 = .int .i64 0 ∧ wr = w5) (fun _ _ _ => 0)
    case atStart => exact ⟨rfl, rfl, rfl⟩
    case round =>
      obtain ⟨rfl, rfl, rfl⟩ := hrel
      go_wp2_with fail
      go_ret3
      exact ⟨.inr (.inr ⟨H0.out, H1.out, [], HP.out, .inr ⟨Nat.le_refl _, by show _ = Ending.returned (.tuple #[.string (tx 1), .bool true, .int .i64 0]); rw [tx_one]; rfl⟩⟩), HB.out⟩

theorem idx_bd {F L : List (List Int)} {D : Nat} (hF : ∀ i, i < F.length → (F.getD i []).getD (pv (F.getD i [])).toNat 0 ≠ 0) (hL : ∀ i, Lt10s D (L.getD i [])) : ∀ i, i ≤ F.length → Lt10 (1 + D * i) (idxL F L i) := by
  intro i
  induction i with
  | zero => intro _; show (1 : Nat) < 10 ^ 1; decide
  | succ i ih =>
    intro hi
    have h1 := ih (by omega)
    have h2 : Lt10 D (idxQ (F.getD i []) (L.getD i [])) := Nat.lt_of_le_of_lt (Ln.fq_abs (hF i (by omega))) ((hL i).at_ _)
    have := h1.mul h2
    rw [show 1 + D * (i + 1) = 1 + D * i + D by rw [Nat.mul_succ]; omega]
    exact this

theorem za_big {D : Nat} {x : Int} (h : Lt10 D x) (hD : D ≤ 39999999999) : Za x := by
  unfold Za
  have h1 := nat_size x
  have h2 := nDigits_le (D + 1) x.natAbs (Nat.lt_of_lt_of_le h (Nat.pow_le_pow_right (by decide) (by omega))) (by omega)
  rw [← tn_size] at h2
  by_cases h0 : D = 0
  · subst h0; omega
  · have h3 := nDigits_le D x.natAbs h (by omega)
    rw [← tn_size] at h3
    omega
set_option maxRecDepth 100000 in
set_option maxHeartbeats 1600000 in
theorem index_main (w : World) (vf vs : Value) (F S : List (List Int)) (hF : MatAt w vf F) (hS : MatAt w vs S) (h0 : pairE F S = 0) (h1 : inclB F S = true) (hn0 : 1 ≤ (S.getD 0 []).length) (hn9 : Ln.dg (S.getD 0 []).length 10 ≤ 3000000000) (hG : GOk w) :
    Calls Tryz.prog 14 #[vf, vs] w (IndexPost F S w) := by
  have hP := pairE_zero h0
  have PR := Lib.hid (pair_any w vf vs F S hF hS)
  have IN := Lib.hid (fun W (hW : Below w.heap.size w W) => includes_any W vf vs F S _ _ (hF.nb hW) (hS.nb hW) (pairE_zero h0) (hG.below hW))
  have CO := Lib.hid (fun W (hW : Below w.heap.size w W) => columns_any W vs S (hS.nb hW))
  have hm0 : 1 ≤ S.length := by
    rcases Nat.eq_zero_or_pos S.length with h | h
    · have hM : S = [] := List.eq_nil_of_length_eq_zero h
      rw [hM] at hn0
      cases hn0
    · exact h
  have HPV : Hid (∀ r ∈ F, 0 ≤ pv r) := Lib.hid (isFormB_pv hP.form)
  unfold IndexPost
  have H0 := Lib.hid h0
  have H1 := Lib.hid h1
  rw [h0] at PR
  rw [h1] at IN
  obtain ⟨n, hn⟩ : ∃ n, n = (S.getD 0 []).length := ⟨_, rfl⟩
  rw [← hn] at CO hP hn0 hn9 ⊢
  obtain ⟨m, hm⟩ : ∃ m, m = S.length := ⟨_, rfl⟩
  rw [← hm] at hm0
  have hml : m ≤ 12 := by have := hP.sub.len; omega
  have hnl : n ≤ 12 := hP.sub.cols
  obtain ⟨LN', EC'⟩ := ech_lines hS hP.sub hm.symm hn0 hm0 (by omega) hG
  have LN := Lib.hid LN'
  have EC := Lib.hid (fun (W : World) (G cap : Nat) (rs : List LR) (B : Nat) (h : Hid (rs.map LR.ln = linesOf S ∧ Lns n m W B G rs)) (h2 : m ≤ cap) (h3 : GOk W) (h4 : Gb B) => EC' W B G cap rs h.out.1 h.out.2 h2 h3 h4)
  have HR := Lib.hid (And.intro hP hm.symm)
  have HMA := Lib.hid (fun W (hW : Below w.heap.size w W) => hF.nb hW)
  obtain ⟨pf, cf, hve, -, -⟩ := hF.slice_
  subst hve
  obtain ⟨nf, hnf⟩ : ∃ n, n = F.length := ⟨_, rfl⟩
  have hnfl : nf ≤ 12 := by rw [hnf]; exact hP.right.len
  have HN := Lib.hid hnf.symm
  rw [← hnf] at PR IN HMA ⊢
  clear LN' EC' hP hm hn hnf h0 h1 hF hS
  go_enter Tryz.func14, Tryz.ntmps14
  go_upto_if 33 with (first
    | (go_at_call 50; refine PR.out.mono ?_; rintro e w1 ⟨rfl, hb1⟩)
    | (go_at_call 51; refine (IN.out _ hb1).mono ?_; rintro e w2 ⟨rfl, hb2⟩; have hb12 := nb_trans hb1 hb2; have hg2 := hG.below hb12)
    | (go_at_call 46; refine (LN.out _ hb12 hg2).mono ?_; rintro e w3 ⟨G, cap, rs, rfl, hcap, hls, hb3, hg3⟩)
    | (go_at_call 48; refine (CO.out _ (nb_trans hb12 hb3)).mono ?_; rintro e w4 ⟨rfl, hb4⟩; have hls4 : Hid (rs.map LR.ln = linesOf S ∧ Lns n m w4 w2.heap.size G rs) := ⟨hls.out.1, hls.out.2.nb hb4⟩)
    | (go_at_call 47; refine (EC.out _ G cap rs w2.heap.size hls4 hcap (hg3.below hb4) hg2.gb).mono ?_; rintro e w5 ⟨Dl, Rl, rfl, hE, hdl⟩))
  have HB5 : Below w.heap.size w w5 := (nb_trans hb12 (nb_trans hb3 hb4)).trans (hE.out.below.mono hb12.size)
  have hok := hE.out.ok
  have HFO := Lib.hid (formOf_ech HR.out.1.sub.row HR.out.2 hE.out.ech)
  have e5 : (Dl.map LR.ln).map (·.1) = Dl.map LR.x := by rw [List.map_map]; rfl
  rw [e5] at HFO
  have HLT : Hid (∀ i, Lt10s (Ln.dg n 10) ((Dl.map LR.x).getD i [])) := Lib.hid (by
    intro i x hx
    rw [List.getD_eq_getElem?_getD, List.getElem?_map] at hx
    cases hq : Dl[i]? with
    | none => rw [hq] at hx; cases hx
    | some q =>
      rw [hq] at hx
      have hb := hE.out.ech.bd q.ln (List.mem_append_left _ (List.mem_map.2 ⟨q, List.mem_of_getElem? hq, rfl⟩))
      exact (bd_lt10 hb (Ln.gb_lt (show 1000000000 < 10 ^ 10 by decide) n)).1 x hx)
  have HEN := Lib.hid hE.out.lns
  obtain ⟨dn, hdn⟩ : ∃ d, d = Dl.length := ⟨_, rfl⟩
  have HD := Lib.hid hdn.symm
  have hdm : dn ≤ m := by omega
  have hdn12 : dn ≤ 12 := by omega
  have HLX : Hid ((Dl.map LR.x).length = dn) := Lib.hid (by rw [List.length_map, hdn])
  rw [← hdn]
  clear e5 hdn hb1 hb2 hb3 hb4 hb12 hE hls hls4 hg2 hg3 hdl CO LN EC PR IN
  by_cases hlt : dn < nf
  · have hd : decide ((dn : Int) < (nf : Int)) = true := decide_eq_true (by omega)
    go_wp2_with fail
    go_ret3
    exact ⟨.inr (.inr ⟨H0.out, H1.out, _, HFO.out, .inl ⟨by rw [HLX.out]; exact hlt, rfl⟩⟩), HB5⟩
  · have hd : decide ((dn : Int) < (nf : Int)) = false := decide_eq_false (by omega)
    have hdN : decide (dn < nf) = false := decide_eq_false hlt
    first | rw [hdN] | rw [hd]
    go_wp2_with fail
    go_loopw [4, 36] (fun s4 s36 wr => ∃ i : Nat, i ≤ nf ∧ s4 = .string (tx (idxL F (Dl.map LR.x) i)) ∧ s36 = .int .i64 i ∧ Below w5.heap.size w5 wr) (fun _ s36 _ => nf - (intOf s36).toNat)
    case atStart => exact ⟨0, Nat.zero_le _, by show _ = Value.string (tx 1); rw [tx_one], rfl, nb_refl _⟩
    case round =>
      obtain ⟨i, hi, rfl, rfl, hb⟩ := hrel
      have hbw := HB5.trans (hb.mono HB5.size)
      by_cases hif : i < nf
      · obtain ⟨b, o, c, hve, -, hcell⟩ := (HMA.out _ hbw).open_ (by rw [HN.out]; omega)
        cases hve
        obtain ⟨u, hu, hr⟩ := hcell i (by rw [HN.out]; exact hif)
        have hri : F.getD i [] ∈ F := getD_mem [] (by rw [HN.out]; exact hif)
        have hrn : (F.getD i []).length = n := by
          have h1 := HR.out.1.right.row _ hri
          have h2 := HR.out.1.cols (List.length_pos_of_mem hri) (by rw [HR.out.2]; omega)
          omega
        have hrp := HPV.out _ hri
        have hrl := HR.out.1.right.lim _ hri
        have hwa := idx_bd (F := F) (L := Dl.map LR.x) (fun j hj => by
          rcases pv_spec (F.getD j []) with ⟨h, _⟩ | ⟨_, _, h, _⟩
          · have := HPV.out _ (getD_mem [] hj); omega
          · exact h) HLT.out i (by rw [HN.out]; exact hi)
        have hstep : idxL F (Dl.map LR.x) (i + 1) = idxL F (Dl.map LR.x) i * idxQ (F.getD i []) ((Dl.map LR.x).getD i []) := rfl
        obtain ⟨q, hq⟩ : ∃ q, Dl[i]? = some q := ⟨Dl[i]'(by have := HD.out; omega), List.getElem?_eq_getElem _⟩
        have hqx : (Dl.map LR.x).getD i [] = q.x := by rw [List.getD_eq_getElem?_getD, List.getElem?_map, hq]; rfl
        have hql := HLT.out i
        rw [hqx] at hstep hql
        obtain ⟨r, hrr⟩ : ∃ r, r = F.getD i [] := ⟨_, rfl⟩
        rw [← hrr] at hr hrn hrp hrl hstep
        have PV := Lib.hid (fun W (hW : Below wr.heap.size wr W) => pivot_any W u r (hr.nb hW))
        obtain ⟨b2, o2, c2, rfl, -, hrc⟩ := hr.open_ (by omega)
        rw [hrn] at hrc hu PV
        obtain ⟨pn, hpn⟩ : ∃ pn : Nat, pv r = pn := ⟨(pv r).toNat, by omega⟩
        have hp0 : pn < n ∧ r.getD pn 0 ≠ 0 := by
          rcases pv_spec r with ⟨h, _⟩ | ⟨_, h1, h2, _⟩
          · omega
          · rw [hpn, Int.toNat_natCast] at h2
            exact ⟨by omega, h2⟩
        have hrc' := hrc pn hp0.1
        rw [hpn] at PV
        have hqa : (Dl ++ Rl)[i]? = some q := by rw [List.getElem?_append_left (by rw [HD.out]; omega)]; exact hq
        have hl := HEN.out.nb hb
        have g1 := hl.xcell hqa
        rw [Nat.mul_comm] at g1
        unfold LR.xv at g1
        have hqM := List.mem_of_getElem? hqa
        have g2 := (hl.rows q hqM).1.cell (i := pn) (by rw [(hl.size q hqM).1]; exact hp0.1)
        have lv : Lt10 (Ln.dg n 10) (q.x.getD pn 0) := hql.at_ pn
        have lu : Lt10 10 (r.getD pn 0) := (lim_lt10 hrl).at_ pn
        have hq64 : I64 (r.getD pn 0) := by
          have := hrl _ (getD_mem 0 (show pn < r.length by omega))
          unfold I64; omega
        have hqq : idxQ r q.x = Ln.fq (q.x.getD pn 0) (r.getD pn 0) := by unfold idxQ; rw [hpn, Int.toNat_natCast]
        have lk : Lt10 (Ln.dg n 10) (idxQ r q.x) := by rw [hqq]; exact Nat.lt_of_le_of_lt (Ln.fq_abs hp0.2) lv
        have dp := Ln.dg_pos (show 1 ≤ 10 by omega) n
        have WD := Lib.hid (fun W (hg : GOk W) => wdiv_fq (q.x.getD pn 0) (r.getD pn 0) (lv.za (by omega) dp) (lu.za (by omega) (by omega)) hp0.2 W hg)
        rw [← hqq] at WD
        have OF := Lib.hid (fun W (hg : GOk W) => of_any (r.getD pn 0) hq64 W hg)
        have ML := Lib.hid (fun W (hg : GOk W) => wmul_any (idxL F (Dl.map LR.x) i) (idxQ r q.x) (za_big hwa (by have : Ln.dg n 10 * i ≤ 3000000000 * 12 := Nat.mul_le_mul hn9 (by omega); omega)) (lk.za (by omega) dp) W hg)
        rw [← hstep] at ML
        have hgr := hok.below hb
        obtain ⟨A, hA⟩ : ∃ A, A = tx (idxL F (Dl.map LR.x) i) := ⟨_, rfl⟩
        obtain ⟨A', hA'⟩ : ∃ A, A = tx (idxL F (Dl.map LR.x) (i + 1)) := ⟨_, rfl⟩
        obtain ⟨X, hX⟩ : ∃ X, X = tx (q.x.getD pn 0) := ⟨_, rfl⟩
        obtain ⟨Y, hY⟩ : ∃ Y, Y = tx (r.getD pn 0) := ⟨_, rfl⟩
        obtain ⟨y, hy⟩ : ∃ y, y = r.getD pn 0 := ⟨_, rfl⟩
        obtain ⟨Z, hZ⟩ : ∃ Z, Z = tx (idxQ r q.x) := ⟨_, rfl⟩
        obtain ⟨Z', hZ'⟩ : ∃ Z, Z = tx (q.x.getD pn 0 - r.getD pn 0 * idxQ r q.x) := ⟨_, rfl⟩
        rw [← hX, ← hY, ← hZ, ← hZ'] at WD
        rw [← hA, ← hZ, ← hA'] at ML
        rw [← hA]
        rw [← hY, ← hy] at OF
        rw [← hX] at g2
        rw [← hy] at hrc'
        have HA' := Lib.hid hA'
        have i3 : (pn : Int) < (n : Int) := by omega
        have i4 : (0 : Int) ≤ (pn : Int) := by omega
        have i5 : (i : Int) < (m : Int) := by omega
        clear hA hA' hX hY hy hZ hZ' hcell hr hri hrn hrp hrl hwa hstep hq hqx hql hrr hrc hp0 hqa hl hqM lv lu hq64 hqq lk dp hpn
        go_wp2_with (go_at_call 52; refine (PV.out _ (nb_refl _)).mono ?_; rintro e w6 ⟨rfl, hb6⟩)
        have KS : ∀ wa wb : World, Below wa.heap.size wa wb → (fun w' => Below wr.heap.size wr w' ∧ GOk w' ∧ w'.cell? ⟨G, i * 2, none⟩ = some (.slice (some ⟨q.gx, 0, none⟩) n q.cx) ∧ w'.cell? ⟨q.gx, pn, none⟩ = some (.string X) ∧ w'.cell? ⟨b2, o2 + pn, none⟩ = some (.int .i64 y)) wa → (fun w' => Below wr.heap.size wr w' ∧ GOk w' ∧ w'.cell? ⟨G, i * 2, none⟩ = some (.slice (some ⟨q.gx, 0, none⟩) n q.cx) ∧ w'.cell? ⟨q.gx, pn, none⟩ = some (.string X) ∧ w'.cell? ⟨b2, o2 + pn, none⟩ = some (.int .i64 y)) wb := fun wa wb hb h => ⟨nb_trans h.1 hb, h.2.1.below hb, cellB hb h.2.2.1, cellB hb h.2.2.2.1, cellB hb h.2.2.2.2⟩
        have KB : (fun w' => Below wr.heap.size wr w' ∧ GOk w' ∧ w'.cell? ⟨G, i * 2, none⟩ = some (.slice (some ⟨q.gx, 0, none⟩) n q.cx) ∧ w'.cell? ⟨q.gx, pn, none⟩ = some (.string X) ∧ w'.cell? ⟨b2, o2 + pn, none⟩ = some (.int .i64 y)) w6 := ⟨hb6, hgr.below hb6, cellB hb6 g1, cellB hb6 g2, cellB hb6 hrc'⟩
        have j1 := KB.2.2.1
        have j2 := KB.2.2.2.1
        have j3 := KB.2.2.2.2
        go_region_held3 (fun w' => Below wr.heap.size wr w' ∧ GOk w' ∧ w'.cell? ⟨G, i * 2, none⟩ = some (.slice (some ⟨q.gx, 0, none⟩) n q.cx) ∧ w'.cell? ⟨q.gx, pn, none⟩ = some (.string X) ∧ w'.cell? ⟨b2, o2 + pn, none⟩ = some (.int .i64 y))
          (first | exact KS _ _ hb8 (by assumption) | exact KS _ _ hb7 (by assumption) | exact KS _ _ (nb_drew _) KB)
          (first | (go_at_call 54; refine (OF.out _ ((by assumption : (fun w' => Below wr.heap.size wr w' ∧ GOk w' ∧ w'.cell? ⟨G, i * 2, none⟩ = some (.slice (some ⟨q.gx, 0, none⟩) n q.cx) ∧ w'.cell? ⟨q.gx, pn, none⟩ = some (.string X) ∧ w'.cell? ⟨b2, o2 + pn, none⟩ = some (.int .i64 y)) _).2.1)).mono ?_; rintro e w7 ⟨rfl, hb7⟩) | (go_at_call 53; refine (WD.out _ ((by assumption : (fun w' => Below wr.heap.size wr w' ∧ GOk w' ∧ w'.cell? ⟨G, i * 2, none⟩ = some (.slice (some ⟨q.gx, 0, none⟩) n q.cx) ∧ w'.cell? ⟨q.gx, pn, none⟩ = some (.string X) ∧ w'.cell? ⟨b2, o2 + pn, none⟩ = some (.int .i64 y)) _).2.1)).mono ?_; rintro e w8 ⟨rfl, hb8⟩))
        have H8 : (fun w' => Below wr.heap.size wr w' ∧ GOk w' ∧ w'.cell? ⟨G, i * 2, none⟩ = some (.slice (some ⟨q.gx, 0, none⟩) n q.cx) ∧ w'.cell? ⟨q.gx, pn, none⟩ = some (.string X) ∧ w'.cell? ⟨b2, o2 + pn, none⟩ = some (.int .i64 y)) w8 := by assumption
        obtain ⟨n1, n2, -, -, -⟩ := H8
        clear KS KB hb6 hb7 hb8 j1 j2 j3 g1 g2 hrc' PV WD OF
        go_wp2_with (go_at_call 55; refine (ML.out _ n2).mono ?_; rintro e w9 ⟨rfl, hb9⟩)
        rw [HA'.out]
        go_roundw
        case rel => exact ⟨i + 1, by omega, rfl, by go_num, hb.trans ((nb_trans n1 hb9).mono hb.size)⟩
        case measure => (simp [intOf]) <;> omega
      · obtain rfl : i = nf := by omega
        go_wp2_with fail
        go_ret3
        exact ⟨.inr (.inr ⟨H0.out, H1.out, _, HFO.out, .inr ⟨by rw [HLX.out]; omega, rfl⟩⟩), hbw⟩
end Go.Proofs.YtmfkpmepgbjmkaaGreatDoor
