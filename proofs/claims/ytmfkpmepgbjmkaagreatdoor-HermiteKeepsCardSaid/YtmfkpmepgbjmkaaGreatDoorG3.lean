/-
  WALKS: hermite's IsForm, Pivots, Form.
  WALKS: hermite's lines of a matrix without columns, or without rows.
  WALKS: hermite's Form.
-/
import Derived.Test.YtmfkpmepgbjmkaaGreatDoorG2
set_option linter.unusedVariables false
set_option linter.unusedSimpArgs false
namespace Go.Proofs.YtmfkpmepgbjmkaaGreatDoor
open Go.RowKit

theorem int_bne {a : Int} (h : a ≠ 0) : (a != 0) = true := by rw [bne_iff_ne]; exact h
theorem isForm_out (w : World) (v : Value) (M : List (List Int)) (h : MatAt w v M) :
    Calls Tryz.prog 16 #[v] w fun e w' => ((chkM M ≠ 0 ∧ e = .returned (.tuple #[.bool false, .int .i64 (chkM M)])) ∨ (chkM M = 0 ∧ e = .returned (.tuple #[.bool (isFormB M), .int .i64 0]))) ∧ Below w.heap.size w w' := by
  have CK := Lib.hid (fun W (hW : Below w.heap.size w W) => check_any W v M (h.nb hW))
  have HK := Lib.hid (fun h => chkM_zero (M := M) h)
  have HI := Lib.hid (fun W (hW : Below w.heap.size w W) (h0 : chkM M = 0) => isForm_any W v M _ (h.nb hW) (HK.out h0).row (by have := (HK.out h0).cols; omega))
  clear h
  obtain ⟨k, hk⟩ : ∃ k, k = chkM M := ⟨_, rfl⟩
  obtain ⟨z, hz⟩ : ∃ z, z = isFormB M := ⟨_, rfl⟩
  rw [← hk] at CK HI ⊢
  rw [← hz] at HI ⊢
  clear hk hz HK
  by_cases h0 : k = 0
  · have HI' := Lib.hid (fun W hW => HI.out W hW h0)
    clear HI
    subst h0
    go_enter Tryz.func16, Tryz.ntmps16
    go_wp2_with (first
      | (go_at_call 45; refine (CK.out _ (nb_refl _)).mono ?_; rintro e w1 ⟨rfl, hb1⟩)
      | (go_at_call 57; refine (HI'.out _ hb1).mono ?_; rintro e w2 ⟨rfl, hb2⟩))
    go_ret2
    exact ⟨.inr ⟨(by first | exact rfl | trivial), rfl⟩, nb_trans hb1 hb2⟩
  · have hd : (k != 0) = true := int_bne h0
    have H0 := Lib.hid h0
    clear h0 HI
    go_enter Tryz.func16, Tryz.ntmps16
    go_wp2_with (go_at_call 45; refine (CK.out _ (nb_refl _)).mono ?_; rintro e w1 ⟨rfl, hb1⟩)
    go_ret2
    exact ⟨.inl ⟨H0.out, rfl⟩, hb1⟩

/-- A row that was made. -/
def OwnI (w : World) (u : Value) (xs : List Int) : Prop := w.ownsRow 0 3 1 u xs.length (ints xs) ∧ ∀ x ∈ xs, I64 x
theorem own_low {B C size n : Nat} {T : TypeId} {w : World} {v : Value} {xs : List Value} (h : w.ownsRow B T size v n xs) (hC : C ≤ B) : w.ownsRow C T size v n xs := by
  refine ⟨h.1, ?_⟩
  rcases h.2 with h | ⟨g, cap, cur, hv, hB, hr⟩
  · exact .inl h
  · exact .inr ⟨g, cap, cur, hv, by omega, hr⟩
theorem OwnI.nb {w w' : World} {u : Value} {xs : List Int} (h : OwnI w u xs) (hb : Below w.heap.size w w') : OwnI w' u xs := ⟨own_nb2 h.1 hb, h.2⟩
theorem OwnI.row {w : World} {u : Value} {xs : List Int} (h : OwnI w u xs) : RowAt w u xs := own_rowAt h.1 h.2
theorem own_keep {B C n m size : Nat} {T T' : TypeId} {w w' : World} {u v : Value} {xs ys : List Value} (h : w.ownsRow B T 1 u n xs) (ho : w.ownsRow C T' size v m ys) (hT : T ≠ T') (hg : w.grownBy w' v.ownBlock) : w'.ownsRow B T 1 u n xs := by
  refine ⟨h.1, ?_⟩
  rcases h.2 with h | ⟨g, cap, cur, hv, hB, hG, h1, h2, h3, h4⟩
  · exact .inl h
  · refine .inr ⟨g, cap, cur, hv, hB, (hg.block g (Array.getElem?_eq_some_iff.1 hG).1 ?_).trans hG, h1, h2, h3, h4⟩
    intro e
    rcases ho.2 with ⟨hv', _⟩ | ⟨g', cap', cur', hv', _, hG', _⟩
    · rw [hv'] at e; cases e
    · rw [hv'] at e
      injection e with e
      subst e
      rw [hG] at hG'
      injection hG' with hG'
      injection hG' with _ hG' _
      exact hT hG'
/-- A matrix that is made. -/
def MatO (w : World) (B : Nat) (v : Value) (L : List (List Int)) : Prop :=
  ∃ us : List Value, us.length = L.length ∧ w.ownsRow B 35 1 v L.length us ∧ ∀ i, i < L.length → OwnI w (us.getD i (.slice none 0 0)) (L.getD i [])
theorem MatO.start (w : World) (B : Nat) : MatO w B (.slice none 0 0) [] := ⟨[], rfl, World.ownsRow_nil _ _ _ _, fun i hi => by simp at hi⟩
theorem MatO.nb {w w' : World} {B : Nat} {v : Value} {L : List (List Int)} (h : MatO w B v L) (hb : Below w.heap.size w w') : MatO w' B v L := by
  obtain ⟨us, h1, h2, h3⟩ := h
  exact ⟨us, h1, own_nb2 h2 hb, fun i hi => (h3 i hi).nb hb⟩
theorem MatO.push {w w' : World} {B : Nat} {v v' u : Value} {L : List (List Int)} {xs : List Int} (h : MatO w B v L) (hu : OwnI w u xs) (hg : w.grownBy w' v.ownBlock) (us : List Value)
    (hus : us.length = L.length ∧ w.ownsRow B 35 1 v L.length us ∧ ∀ i, i < L.length → OwnI w (us.getD i (.slice none 0 0)) (L.getD i []))
    (ho : w'.ownsRow B 35 1 v' (L.length + 1) (us ++ [u])) : MatO w' B v' (L ++ [xs]) := by
  obtain ⟨h1, h2, h3⟩ := hus
  refine ⟨us ++ [u], by simp [h1], by rw [List.length_append]; exact ho, fun i hi => ?_⟩
  rw [List.length_append] at hi
  have hi' : i < L.length + 1 := hi
  by_cases hil : i < L.length
  · have e1 : (us ++ [u]).getD i (.slice none 0 0) = us.getD i (.slice none 0 0) := by
      rw [List.getD_eq_getElem?_getD, List.getElem?_append_left (by omega), ← List.getD_eq_getElem?_getD]
    have e2 : (L ++ [xs]).getD i [] = L.getD i [] := by
      rw [List.getD_eq_getElem?_getD, List.getElem?_append_left hil, ← List.getD_eq_getElem?_getD]
    rw [e1, e2]
    exact ⟨own_keep (h3 i hil).1 h2 (by decide) hg, (h3 i hil).2⟩
  · obtain rfl : i = L.length := by omega
    have e1 : (us ++ [u]).getD L.length (.slice none 0 0) = u := by
      rw [List.getD_eq_getElem?_getD, List.getElem?_append_right (by omega), h1, Nat.sub_self]; rfl
    have e2 : (L ++ [xs]).getD L.length [] = xs := by
      rw [List.getD_eq_getElem?_getD, List.getElem?_append_right (Nat.le_refl _), Nat.sub_self]; rfl
    rw [e1, e2]
    exact ⟨own_keep hu.1 h2 (by decide) hg, hu.2⟩
theorem MatO.at_ {w : World} {B : Nat} {v : Value} {L : List (List Int)} (h : MatO w B v L) : MatAt w v L := by
  obtain ⟨us, h1, h2, h3⟩ := h
  rcases h2.2 with ⟨hv, h0⟩ | ⟨g, cap, cur, hv, hB, hG, k1, k2, k3, k4⟩
  · have : L = [] := List.eq_nil_of_length_eq_zero h0
    subst this
    exact ⟨none, 0, hv, Nat.le_refl _, by simp, fun i hi => by simp at hi⟩
  · refine ⟨some ⟨g, 0, none⟩, cap, hv, k1, by unfold maxLen at k2; omega, fun i hi => ⟨g, 0, _, rfl, ?_, (h3 i hi).row⟩⟩
    rw [Nat.zero_add, cell_of_row w g i _ _ _ hG]
    have h5 : (cur.toList.take (L.length * 1))[i]? = us[i]? := by rw [k4]
    rw [List.getElem?_take_of_lt (by omega), Array.getElem?_toList] at h5
    rw [h5, List.getD_eq_getElem?_getD, List.getElem?_eq_getElem (by omega)]
    rfl

/-- What Pivots answers. -/
def PivPost (M : List (List Int)) (w : World) (e : Ending) (w' : World) : Prop :=
  ((chkM M ≠ 0 ∧ e = .returned (.tuple #[.slice none 0 0, .int .i64 (chkM M)])) ∨ (chkM M = 0 ∧ isFormB M = false ∧ e = .returned (.tuple #[.slice none 0 0, .int .i64 7])) ∨
    (chkM M = 0 ∧ isFormB M = true ∧ ∃ u, e = .returned (.tuple #[u, .int .i64 0]) ∧ RowAt w' u (M.map pv))) ∧ Below w.heap.size w w'
theorem pv_i64 (r : List Int) (h : r.length ≤ 9223372036854775807) : I64 (pv r) := by
  rcases pv_spec r with ⟨h, _⟩ | ⟨h0, h1, _⟩
  · rw [h]; exact ⟨by decide, by decide⟩
  · exact ⟨by omega, by omega⟩
set_option maxRecDepth 100000 in
set_option maxHeartbeats 1600000 in
theorem pivots_any (w : World) (v : Value) (M : List (List Int)) (h : MatAt w v M) :
    Calls Tryz.prog 21 #[v] w (PivPost M w) := by
  obtain ⟨i0, hi0, hz0, hz1, hz2⟩ := info_parts Tryz.infoI
  have IF := Lib.hid (fun W (hW : Below w.heap.size w W) => isForm_out W v M (h.nb hW))
  have HPV : Hid (∀ r ∈ M, I64 (pv r)) := Lib.hid (by
    intro r hr
    obtain ⟨i, hi, rfl⟩ := List.mem_iff_getElem.1 hr
    obtain ⟨u, hu⟩ := h.row hi
    have := hu.slice_
    rw [List.getD_eq_getElem?_getD, List.getElem?_eq_getElem hi] at this
    obtain ⟨p, c, _, _, h2⟩ := this
    exact pv_i64 _ h2)
  obtain ⟨p, c, rfl, hc, hmax, hcell⟩ := h
  obtain ⟨m, hm⟩ : ∃ m, m = M.length := ⟨_, rfl⟩
  have HM := Lib.hid hm.symm
  rw [← hm] at hc hmax hcell IF ⊢
  have HC := Lib.hid hcell
  clear hcell hm
  obtain ⟨k, hk⟩ : ∃ k, k = chkM M := ⟨_, rfl⟩
  obtain ⟨z, hz⟩ : ∃ z, z = isFormB M := ⟨_, rfl⟩
  have HK := Lib.hid (And.intro hk.symm hz.symm)
  rw [← hk, ← hz] at IF
  unfold PivPost
  rw [← hk, ← hz]
  clear hk hz
  by_cases h0 : k = 0
  · have CI : Hid (∀ W, Below w.heap.size w W → Calls Tryz.prog 16 #[.slice p m c] W fun e w' => e = .returned (.tuple #[.bool z, .int .i64 0]) ∧ Below W.heap.size W w') := Lib.hid (fun W hW => (IF.out W hW).mono (by
      rintro e w' ⟨h | h, hb⟩
      · exact absurd h0 h.1
      · exact ⟨h.2, hb⟩))
    clear IF
    subst h0
    cases z with
    | false =>
      go_enter Tryz.func21, Tryz.ntmps21
      go_wp2_with (go_at_call 16; refine (CI.out _ (nb_refl _)).mono ?_; rintro e w1 ⟨rfl, hb1⟩)
      go_ret2
      exact ⟨.inr (.inl ⟨(by first | exact rfl | trivial), (by first | exact rfl | trivial), rfl⟩), hb1⟩
    | true =>
      go_enter Tryz.func21, Tryz.ntmps21
      go_wp2_with (go_at_call 16; refine (CI.out _ (nb_refl _)).mono ?_; rintro e w1 ⟨rfl, hb1⟩)
      go_loopw [6, 21] (fun s6 s21 wr => ∃ i : Nat, i ≤ m ∧ s21 = .int .i64 i ∧ Hid (wr.ownsRow w.heap.size 3 1 s6 i (ints ((M.map pv).take i))) ∧ Below w.heap.size w wr) (fun _ s21 _ => m - (intOf s21).toNat)
      case atStart => exact ⟨0, Nat.zero_le _, rfl, World.ownsRow_nil _ _ _ _, hb1⟩
      case round =>
        clear hb1
        obtain ⟨i, hi, rfl, hst, hb⟩ := hrel
        obtain ⟨vo, hvo⟩ : ∃ x, x = u6 := ⟨_, rfl⟩
        subst hvo
        by_cases him : i < m
        · obtain ⟨b, o, u, rfl, hu, hr⟩ := HC.out i him
          have hu' := cellB hb hu
          obtain ⟨r, hrr⟩ : ∃ r, r = M.getD i [] := ⟨_, rfl⟩
          have PV := Lib.hid (fun W (hW : Below w.heap.size w W) => pivot_any W u _ (hr.nb hW))
          rw [← hrr] at PV hr
          obtain ⟨pr, cr, rfl, -, -⟩ := hr.slice_
          have hmi : (M.map pv).getD i 0 = pv r := by
            rw [hrr, List.getD_eq_getElem?_getD, List.getElem?_map, List.getD_eq_getElem?_getD, List.getElem?_eq_getElem (by rw [HM.out]; exact him)]; rfl
          have hil : i < (M.map pv).length := by rw [List.length_map, HM.out]; exact him
          obtain ⟨y, hy⟩ : ∃ y, y = pv r := ⟨_, rfl⟩
          rw [← hy] at PV hmi
          obtain ⟨ln, hln⟩ : ∃ l, l = r.length := ⟨_, rfl⟩
          rw [← hln] at PV hu'
          have HMI := Lib.hid (And.intro hmi hil)
          clear hrr hmi hil hy hln hr hu
          go_wp2_with (first
            | (go_at_call 52; refine (PV.out _ hb).mono ?_; rintro e w2 ⟨rfl, hb2⟩)
            | (at_builtin; refine wpList_append_own _ rfl _ _ 34 rfl w.heap.size 3 i0 (.int .i64 0) 1 8 Tryz.underlying34 hi0 hz0 hz1 hz2 rfl (by decide) vo i _ rfl ((own_nb2 hst.out hb2).alloc _) ⟨w2.heap.size, 0, none⟩ 1 1 [.int .i64 y] rfl rfl (cell_one_new _ _ _) (by intro u hu; simp at hu; subst hu; rfl) (by unfold maxLen; omega) (by have := HK.out; have := (chkM_zero (M := M) (HK.out.1)).len; rw [HM.out] at this; omega) (by have := (hb.trans (hb2.mono hb.size)).size; rw [alloc_size]; omega) ?_; intro v' w3 hown3 hgrow3 hnil3))
          have HB3 : Below w.heap.size w w3 := ((hb.trans (hb2.mono hb.size)).trans ((nb_alloc w2 _).mono (hb.trans (hb2.mono hb.size)).size)).trans (grown_below (base := 0) (n := 0) (T := 0) (xs := []) hgrow3 (by rw [alloc_size]; have := (hb.trans (hb2.mono hb.size)).size; omega) (fun k hk => (hst.out.lt k hk).1))
          have HO3 : Hid (w3.ownsRow w.heap.size 3 1 v' (i + 1) (ints ((M.map pv).take (i + 1)))) := Lib.hid (by
            rw [← HMI.out.1, ints_take HMI.out.2] at hown3; exact hown3)
          clear hown3 hgrow3 hnil3 hb2
          go_wp2_with fail
          go_roundw
          case rel => exact ⟨i + 1, by omega, by go_num, HO3, HB3⟩
          case measure => (simp [intOf]) <;> omega
        · obtain rfl : i = m := by omega
          have HE := Lib.hid hst.out
          clear hst
          go_wp2_with fail
          go_ret2
          have h2 := HE.out
          rw [List.take_of_length_le (by rw [List.length_map, HM.out]; exact Nat.le_refl _)] at h2
          refine ⟨.inr (.inr ⟨(by first | exact rfl | trivial), (by first | exact rfl | trivial), vo, rfl, own_rowAt h2 ?_⟩), hb⟩
          intro x hx
          obtain ⟨r, hr, rfl⟩ := List.mem_map.1 hx
          exact HPV.out r hr
  · have CI : Hid (∀ W, Below w.heap.size w W → Calls Tryz.prog 16 #[.slice p m c] W fun e w' => e = .returned (.tuple #[.bool false, .int .i64 k]) ∧ Below W.heap.size W w') := Lib.hid (fun W hW => (IF.out W hW).mono (by
      rintro e w' ⟨h | h, hb⟩
      · exact ⟨h.2, hb⟩
      · exact absurd h.1 h0))
    have hd : (k != 0) = true := int_bne h0
    have H0 := Lib.hid h0
    clear IF h0
    go_enter Tryz.func21, Tryz.ntmps21
    go_wp2_with (go_at_call 16; refine (CI.out _ (nb_refl _)).mono ?_; rintro e w1 ⟨rfl, hb1⟩)
    go_ret2
    exact ⟨.inl ⟨H0.out, rfl⟩, hb1⟩
end Go.Proofs.YtmfkpmepgbjmkaaGreatDoor

namespace Go.Proofs.YtmfkpmepgbjmkaaGreatDoor
open Go.RowKit

theorem lines_nil (w : World) (v : Value) (h : MatAt w v []) : Calls Tryz.prog 46 #[v] w fun e w' => e = .returned (.slice none 0 0) ∧ w' = w := by
  obtain ⟨p, c, rfl, -, -⟩ := h.slice_
  go_enter Tryz.func46, Tryz.ntmps46
  go_wp2_with fail
  go_loopw [3, 11] (fun s3 s11 wr => s3 = .slice none 0 0 ∧ s11 = .int .i64 0 ∧ wr = w) (fun _ _ _ => 0)
  case atStart => exact ⟨rfl, rfl, rfl⟩
  case round =>
    obtain ⟨rfl, rfl, rfl⟩ := hrel
    go_wp2_with fail
    go_ret
    exact ⟨rfl, rfl⟩
/-- Lines without elements. -/
def Flat (w : World) (B : Nat) (v : Value) (k : Nat) : Prop := ∃ cs : List Value, w.ownsRow B 90 2 v k cs ∧ ∀ i, i < k → cs[2 * i]? = some (.slice none 0 0) ∧ ∃ p n c, cs[2 * i + 1]? = some (.slice p n c)
theorem Flat.done {w : World} {B : Nat} {v : Value} {k : Nat} (h : Flat w B v k) (h0 : 0 < k) : ∃ G cap, v = .slice (some ⟨G, 0, none⟩) k cap ∧ k ≤ cap ∧ B ≤ G ∧ ∀ i, i < k → w.cell? ⟨G, 2 * i, none⟩ = some (.slice none 0 0) ∧ ∃ p n c, w.cell? ⟨G, 2 * i + 1, none⟩ = some (.slice p n c) := by
  obtain ⟨cs, ho, hc⟩ := h
  rcases ho.2 with ⟨_, hn⟩ | ⟨G, cap, cur, hv, hB, hG, h1, h2, h3, h4⟩
  · omega
  · refine ⟨G, cap, hv, h1, hB, fun i hi => ?_⟩
    rw [cell_of_row w G (2 * i) _ _ _ hG, cell_of_row w G (2 * i + 1) _ _ _ hG]
    have h5 := hc i hi
    rw [← h4, List.getElem?_take_of_lt (by omega), Array.getElem?_toList, List.getElem?_take_of_lt (by omega), Array.getElem?_toList] at h5
    exact h5

set_option maxRecDepth 100000 in
set_option maxHeartbeats 1600000 in
theorem lines_flat (w : World) (v : Value) (M : List (List Int)) (m : Nat) (hm : M.length = m) (hM : MatAt w v M) (hn : ∀ r ∈ M, r.length = 0) (hm0 : 1 ≤ m) (hm1 : m ≤ 1000) :
    Calls Tryz.prog 46 #[v] w fun e w' => ∃ G cap, e = .returned (.slice (some ⟨G, 0, none⟩) m cap) ∧ m ≤ cap ∧ w.heap.size ≤ G ∧ (∀ i, i < m → w'.cell? ⟨G, 2 * i, none⟩ = some (.slice none 0 0) ∧ ∃ p n c, w'.cell? ⟨G, 2 * i + 1, none⟩ = some (.slice p n c)) ∧ Below w.heap.size w w' := by
  obtain ⟨i0, hi0, hz0, hz1, hz2⟩ := info_parts Tryz.infoL
  obtain ⟨b, o, c, rfl, hc, hcell⟩ := hM.open_ (by omega)
  have HC := Lib.hid hcell
  have HM := Lib.hid hm
  have HN := Lib.hid hn
  rw [hm] at hc ⊢
  clear hcell hM hn hm
  go_enter Tryz.func46, Tryz.ntmps46
  go_wp2_with fail
  go_loopw [3, 11] (fun s3 s11 wr => ∃ (i : Nat), i ≤ m ∧ s11 = .int .i64 i ∧ Hid (Flat wr w.heap.size s3 i) ∧ Below w.heap.size w wr) (fun _ s11 _ => m - (intOf s11).toNat)
  case atStart => exact ⟨0, Nat.zero_le _, rfl, ⟨[], World.ownsRow_nil _ _ _ _, fun i hi => by omega⟩, nb_refl _⟩
  case round =>
    obtain ⟨i, hi, rfl, hst, hbl⟩ := hrel
    obtain ⟨vo, hvo⟩ : ∃ x, x = u3 := ⟨_, rfl⟩
    subst hvo
    by_cases him : i < m
    · obtain ⟨u, hu, hr⟩ := HC.out i (by rw [HM.out]; exact him)
      have hxn : (M.getD i []).length = 0 := HN.out _ (getD_mem _ (by rw [HM.out]; exact him))
      obtain ⟨pr, cr, rfl, -, -⟩ := hr.slice_
      rw [hxn] at hu
      have hu' := cellB hbl hu
      have RP := Lib.hid (fun (W : World) (g : Nat) (hg : W.cell? ⟨g, 0, none⟩ = some (.string (tx 0))) => repeat_any W g 1 m 0 hm1 hm0 hg)
      rw [tx_zero] at RP
      obtain ⟨wq, hwq⟩ : ∃ x, x = wr := ⟨_, rfl⟩
      subst hwq
      clear hxn hr hu
      go_wp2_with (go_at_call 80; refine (RP.out _ wq.heap.size (cell_one_new _ _ _ 0 _ rfl)).mono ?_; rintro e w1 ⟨rfl, hrw1, hb1⟩; have hrw := row_size hrw1; have q12 := rep_facts hrw him; have q1 := q12.1; have q2 := q12.2)
      obtain ⟨by_, hby⟩ : ∃ x, x = Value.slice (some ⟨wq.heap.size + 1, 0, none⟩) m m := ⟨_, rfl⟩
      obtain ⟨gb, hgb⟩ : ∃ x, x = wq.heap.size + 1 := ⟨_, rfl⟩
      obtain ⟨lb, hlb⟩ : ∃ x, x = w1.heap.size := ⟨_, rfl⟩
      have hbw1 : Below wq.heap.size wq w1 := nb_trans (nb_alloc _ _) hb1
      rw [← hgb] at hrw hby
      have hlt := hrw.lt
      have h1b : by_.oneCell' = true := by rw [hby]; rfl
      have HBS : Hid (∃ p n c, by_ = Value.slice p n c) := Lib.hid ⟨_, _, _, hby⟩
      obtain ⟨W, hW⟩ : ∃ W, W = (w1.alloc (.cells #[.slice none 0 0, by_] 90)).setCell ⟨gb, i, none⟩ (.string ⟨#[49]⟩) := ⟨_, rfl⟩
      have f2 : W.heap[lb]? = some (.cells #[.slice none 0 0, by_] 90 (0, 0)) := by
        rw [hW]
        have e := Below.heap_setCell (w1.alloc (.cells #[.slice none 0 0, by_] 90)) ⟨gb, i, none⟩ (.string ⟨#[49]⟩) lb (by show lb ≠ gb; omega)
        rw [e, hlb]
        simp [World.alloc, -World.alloc_eq]
      have f3 : Below wq.heap.size wq W := by
        rw [hW]
        exact (hbw1.trans ((nb_alloc w1 _).mono hbw1.size)).setCell (by show wq.heap.size ≤ gb; omega) _
      have k0 := lb_cell f2
      rw [← hlb, ← hgb, ← hby, ← hW]
      have HB := Lib.hid (hbl.trans (f3.mono hbl.size))
      have hszw := HB.out.size
      have HK := Lib.hid (own_nb2 (T := 90) (size := 2) hst.out.choose_spec.1 f3)
      have HCS := Lib.hid hst.out.choose_spec.2
      obtain ⟨cs, hcs⟩ : ∃ cs, cs = hst.out.choose := ⟨_, rfl⟩
      rw [← hcs] at HK HCS
      have k1 := k0.1
      have k2 := k0.2.1
      clear hcs hW hlb hby hgb hrw hrw1 hb1 hbw1 q1 q2 q12 f2 f3 hlt RP hst hbl k0
      go_loopw [27] (fun s27 wx => s27 = .int .i64 0 ∧ wx = W) (fun _ _ => 0)
      case atStart => exact ⟨rfl, rfl⟩
      case round =>
        obtain ⟨rfl, rfl⟩ := hrel
        go_wp2_with (at_builtin; refine wpList_append_own _ rfl _ _ 84 rfl w.heap.size 90 i0 (.agg #[.slice none 0 0, .slice none 0 0]) 2 48 Tryz.underlying84 hi0 hz0 hz1 hz2 rfl (by decide) vo i cs rfl (HK.out.alloc _) ⟨wr.heap.size, 0, none⟩ 1 1 [.slice none 0 0, by_] rfl rfl (two_new _ _ _ _) (by intro u hu; simp at hu; rcases hu with rfl | rfl; rfl; exact h1b) (by unfold maxLen; omega) (by omega) (by rw [alloc_size]; omega) ?_; intro v' w4 hown4 hgrow4 hnil4)
        have HW4 : Hid (Flat w4 w.heap.size v' (i + 1)) := Lib.hid ⟨_, hown4, fun j hj => by
          have hl := HK.out.1
          rcases Nat.lt_or_eq_of_le (Nat.le_of_lt_succ hj) with h | rfl
          · rw [List.getElem?_append_left (by omega), List.getElem?_append_left (by omega)]; exact HCS.out j h
          · rw [List.getElem?_append_right (by omega), List.getElem?_append_right (by omega), hl, show 2 * j - j * 2 = 0 by omega, show 2 * j + 1 - j * 2 = 1 by omega]
            obtain ⟨p, n, c, hbe⟩ := HBS.out
            exact ⟨rfl, p, n, c, by rw [hbe]; rfl⟩⟩
        have HB4 : Below w.heap.size w w4 := (HB.out.trans ((nb_alloc wr _).mono hszw)).trans (grown_below (base := 0) (n := 0) (T := 0) (xs := []) hgrow4 (by rw [alloc_size]; omega) (fun k hk => (HK.out.lt k hk).1))
        clear hown4 hgrow4 hnil4
        go_wp2_with fail
        go_roundw
        case rel => exact ⟨i + 1, by omega, by go_num, HW4, HB4⟩
        case measure => (simp [intOf]) <;> omega
    · obtain rfl : i = m := by omega
      obtain ⟨G, cap, rfl, hcap, hGB, hcl⟩ := hst.out.done (by omega)
      have HL := Lib.hid hcl
      clear hcl hst
      go_wp2_with fail
      go_ret
      exact ⟨G, cap, rfl, hcap, hGB, HL.out, hbl⟩
end Go.Proofs.YtmfkpmepgbjmkaaGreatDoor

namespace Go.Proofs.YtmfkpmepgbjmkaaGreatDoor
open Go.RowKit

/-- L is the form of M's lattice. -/
structure FormOf (n : Nat) (M L : List (List Int)) : Prop where
  form : Hnf.FormU n 0 (L.map Ln.xrow)
  same : Hnf.Same (M.map Ln.xrow) (L.map Ln.xrow)
  len : ∀ r ∈ L, r.length = n
theorem xrow_inj {n : Nat} {a b : List Int} (ha : a.length = n) (hb : b.length = n) (h : Ln.xrow a = Ln.xrow b) : a = b := by
  apply List.ext_getElem (by omega)
  intro i h1 h2
  have := congrFun h i
  unfold Ln.xrow at this
  rw [List.getD_eq_getElem?_getD, List.getD_eq_getElem?_getD, List.getElem?_eq_getElem h1, List.getElem?_eq_getElem h2] at this
  exact this
theorem xrows_inj {n : Nat} : ∀ {A B : List (List Int)}, (∀ r ∈ A, r.length = n) → (∀ r ∈ B, r.length = n) → A.map Ln.xrow = B.map Ln.xrow → A = B := by
  intro A
  induction A with
  | nil => intro B _ _ h; cases B with | nil => rfl | cons b B => cases h
  | cons a A ih =>
    intro B hA hB h
    cases B with
    | nil => cases h
    | cons b B =>
      rw [List.map_cons, List.map_cons] at h
      injection h with h1 h2
      rw [xrow_inj (hA a (List.mem_cons_self ..)) (hB b (List.mem_cons_self ..)) h1, ih (fun r hr => hA r (List.mem_cons_of_mem _ hr)) (fun r hr => hB r (List.mem_cons_of_mem _ hr)) h2]
theorem FormOf.unique {n : Nat} {M L L' : List (List Int)} (h : FormOf n M L) (h' : FormOf n M L') : L = L' :=
  xrows_inj h.len h'.len (Hnf.Form.unique h.form.form h'.form.form (h.same.symm.trans h'.same))
theorem FormOf.empty {M : List (List Int)} (hz : ∀ r ∈ M, r.length = 0) : FormOf 0 M [] := by
  refine ⟨trivial, ?_, by simp⟩
  have : ∀ z ∈ M.map Ln.xrow, ∀ j, z j = 0 := by
    intro z hz' j
    obtain ⟨r, hr, rfl⟩ := List.mem_map.1 hz'
    unfold Ln.xrow
    rw [List.getD_eq_getElem?_getD, List.getElem?_eq_none (by have := hz r hr; omega)]; rfl
  have h := Hnf.Same.drop_zeros (A := []) this
  exact h
theorem cutR_xrow {n : Nat} {r : List Int} (h : r.length = n) : Ln.cutR n (Ln.xrow r) = Ln.xrow r := by
  funext j
  unfold Ln.cutR Ln.xrow
  by_cases hj : j < n
  · simp [hj]
  · simp only [hj, if_false]
    rw [List.getD_eq_getElem?_getD, List.getElem?_eq_none (by omega)]; rfl
/-- An echelon's first lines are the form. -/
theorem formOf_ech {n m G : Nat} {M : List (List Int)} {D R : List Ln.Ln} (hM : ∀ r ∈ M, r.length = n) (hm : M.length = m) (h : Ln.Ech n m n G (linesOf M) D R) : FormOf n M (D.map (·.1)) := by
  have hsz : ∀ l ∈ linesOf M, Ln.Sized n m l := by
    intro l hl
    unfold linesOf at hl
    obtain ⟨p, hp, rfl⟩ := List.mem_map.1 hl
    refine ⟨hM p.1 (List.fst_mem_of_mem_zipIdx hp), ?_⟩
    show (unitL M.length p.2).length = m
    simp [unitL, hm]
  have hsame := Ln.same_x hsz h.sized h.same
  have e1 : (linesOf M).map (fun l => Ln.xrow l.1) = M.map Ln.xrow := by
    unfold linesOf
    rw [List.map_map]
    have : (fun p : List Int × Nat => Ln.xrow p.1) = Ln.xrow ∘ Prod.fst := rfl
    show M.zipIdx.map (fun p : List Int × Nat => Ln.xrow p.1) = _
    rw [this, ← List.map_map]
    congr 1
    exact List.zipIdx_map_fst 0 M
  rw [e1, List.map_append] at hsame
  have hz : ∀ z ∈ R.map (fun l => Ln.xrow l.1), ∀ j, z j = 0 := by
    intro z hz j
    obtain ⟨r, hr, rfl⟩ := List.mem_map.1 hz
    by_cases hj : j < n
    · exact h.zero r hr j hj
    · show r.1.getD j 0 = 0
      rw [List.getD_eq_getElem?_getD, List.getElem?_eq_none (by rw [(h.sized r (List.mem_append_right _ hr)).1]; omega)]; rfl
  refine ⟨?_, ?_, ?_⟩
  · have hf := Hnf.FormU.congr (Ln.cutR n) (fun a ha j hj => by unfold Ln.cutR; rw [if_pos hj]) h.form
    have e2 : (Ln.rows n D).map (Ln.cutR n) = (D.map (·.1)).map Ln.xrow := by
      unfold Ln.rows
      rw [List.map_map, List.map_map]
      apply List.map_congr_left
      intro d hd
      exact Ln.cutR_row (h.sized d (List.mem_append_left _ hd))
    rw [e2] at hf
    exact hf
  · have e3 : (D.map (·.1)).map Ln.xrow = D.map (fun l => Ln.xrow l.1) := by rw [List.map_map]; rfl
    rw [e3]
    exact hsame.trans (Hnf.Same.drop_zeros hz)
  · intro r hr
    obtain ⟨d, hd, rfl⟩ := List.mem_map.1 hr
    exact (h.sized d (List.mem_append_left _ hd)).1
theorem lines_bd {M : List (List Int)} (h : ∀ r ∈ M, Lim r) : ∀ l ∈ linesOf M, Ln.Bd 1000000000 l := by
  intro l hl
  unfold linesOf at hl
  obtain ⟨p, hp, rfl⟩ := List.mem_map.1 hl
  constructor
  · intro x hx
    have := h p.1 (List.fst_mem_of_mem_zipIdx hp) x hx
    omega
  · intro x hx
    have hx' : x ∈ (List.replicate M.length (0 : Int)).set p.2 1 := hx
    rcases List.mem_or_eq_of_mem_set hx' with hx | rfl
    · rw [List.eq_of_mem_replicate hx]; decide
    · decide

/-- What Form answers. -/
def FormPost (M : List (List Int)) (w : World) (e : Ending) (w' : World) : Prop :=
  ((chkM M ≠ 0 ∧ e = .returned (.tuple #[.slice none 0 0, .int .i64 (chkM M)])) ∨
   (chkM M = 0 ∧ ∃ L, FormOf (M.getD 0 []).length M L ∧ (((∀ r ∈ L, Lim r) ∧ ∃ u, e = .returned (.tuple #[u, .int .i64 0]) ∧ MatO w' w.heap.size u L) ∨ (¬ (∀ r ∈ L, Lim r) ∧ e = .returned (.tuple #[.slice none 0 0, .int .i64 4]))))) ∧ Below w.heap.size w w'

set_option maxRecDepth 100000 in
set_option maxHeartbeats 1600000 in
theorem form_bad (w : World) (v : Value) (M : List (List Int)) (h : MatAt w v M) (h0 : chkM M ≠ 0) : Calls Tryz.prog 12 #[v] w (FormPost M w) := by
  have CK := Lib.hid (fun W (hW : Below w.heap.size w W) => check_any W v M (h.nb hW))
  clear h
  unfold FormPost
  obtain ⟨k, hk⟩ : ∃ k, k = chkM M := ⟨_, rfl⟩
  rw [← hk] at CK h0 ⊢
  have hd : (k != 0) = true := int_bne h0
  have H0 := Lib.hid h0
  clear hk h0
  go_enter Tryz.func12, Tryz.ntmps12
  go_wp2_with (go_at_call 45; refine (CK.out _ (nb_refl _)).mono ?_; rintro e w1 ⟨rfl, hb1⟩)
  go_ret2
  exact ⟨.inl ⟨H0.out, rfl⟩, hb1⟩
/-- No columns, or no rows. -/
theorem form_flat (w : World) (v : Value) (M : List (List Int)) (h : MatAt w v M) (h0 : chkM M = 0) (hn : (M.getD 0 []).length = 0) : Calls Tryz.prog 12 #[v] w (FormPost M w) := by
  have hR := chkM_zero h0
  rw [hn] at hR
  have CK := Lib.hid (fun W (hW : Below w.heap.size w W) => check_any W v M (h.nb hW))
  have CO := Lib.hid (fun W (hW : Below w.heap.size w W) => columns_any W v M (h.nb hW))
  have HP : Hid (FormOf 0 M []) := Lib.hid (FormOf.empty hR.row)
  have LN : Hid (∀ W, Below w.heap.size w W → Calls Tryz.prog 46 #[v] W fun e w' => ∃ p c, e = .returned (.slice p M.length c) ∧ Below W.heap.size W w') := Lib.hid (by
    intro W hW
    by_cases hm : M.length = 0
    · have hM : M = [] := List.eq_nil_of_length_eq_zero hm
      subst hM
      refine (lines_nil W v (h.nb hW)).mono ?_
      rintro e w' ⟨rfl, rfl⟩
      exact ⟨none, 0, rfl, nb_refl _⟩
    · refine (lines_flat W v M M.length rfl (h.nb hW) hR.row (by omega) (by have := hR.len; omega)).mono ?_
      rintro e w' ⟨G, cap, rfl, _, _, _, hb⟩
      exact ⟨_, cap, rfl, hb⟩)
  have EZ := Lib.hid (fun W v => echelon_zero W v)
  unfold FormPost
  rw [h0] at CK ⊢
  rw [hn] at CO ⊢
  have hml : M.length ≤ 12 := hR.len
  obtain ⟨m, hm⟩ : ∃ m, m = M.length := ⟨_, rfl⟩
  rw [← hm] at LN hml
  clear hm hR hn h0 h
  go_enter Tryz.func12, Tryz.ntmps12
  go_wp2_with (first
    | (go_at_call 45; refine (CK.out _ (nb_refl _)).mono ?_; rintro e w1 ⟨rfl, hb1⟩)
    | (go_at_call 46; refine (LN.out _ hb1).mono ?_; rintro e w2 ⟨p, c, rfl, hb2⟩)
    | (go_at_call 48; refine (CO.out _ (nb_trans hb1 hb2)).mono ?_; rintro e w3 ⟨rfl, hb3⟩)
    | (go_at_call 47; refine (EZ.out _ _).mono ?_; rintro e w4 ⟨rfl, rfl⟩))
  have HB := Lib.hid (nb_trans hb1 (nb_trans hb2 hb3))
  clear hb1 hb2 hb3
  go_loopw [6, 25] (fun s6 s25 wr => s6 = .slice none 0 0 ∧ s25 = .int .i64 0 ∧ wr = w4) (fun _ _ _ => 0)
  case atStart => exact ⟨rfl, rfl, rfl⟩
  case round =>
    obtain ⟨rfl, rfl, rfl⟩ := hrel
    go_wp2_with fail
    go_ret2
    exact ⟨.inr ⟨by first | exact rfl | trivial, [], HP.out, .inl ⟨by simp, _, rfl, MatO.start _ _⟩⟩, HB.out⟩

theorem getD_cons0 {M : List (List Int)} (h : 0 < M.length) : M.getD 0 [] ∈ M := getD_mem [] h
/-- Lines and echelon together. -/
theorem ech_lines {w : World} {v : Value} {M : List (List Int)} {n m : Nat} (h : MatAt w v M) (hR : Right n M) (hm : M.length = m) (hn0 : 1 ≤ n) (hm0 : 1 ≤ m) (hn9 : Ln.dg n 10 ≤ 4000000000) (hG : GOk w) :
    (∀ W, Below w.heap.size w W → GOk W → Calls Tryz.prog 46 #[v] W fun e w' => ∃ G cap rs, e = .returned (.slice (some ⟨G, 0, none⟩) m cap) ∧ m ≤ cap ∧ Hid (rs.map LR.ln = linesOf M ∧ Lns n m w' W.heap.size G rs) ∧ Below W.heap.size W w' ∧ GOk w') ∧
    (∀ W B G cap rs, rs.map LR.ln = linesOf M → Lns n m W B G rs → m ≤ cap → GOk W → Gb B → Calls Tryz.prog 47 #[.slice (some ⟨G, 0, none⟩) m cap, .int .i64 n] W fun e w' => ∃ Dl Rl, e = .returned (.int .i64 Dl.length) ∧ Hid (Est n m n 10 1000000000 (linesOf M) W w' B G Dl Rl) ∧ Dl.length ≤ m) := by
  constructor
  · intro W hW hg
    refine (lines_any W v M n m hm (h.nb hW) hR.row hn0 (by have := hR.cols; omega) hm0 (by have := hR.len; omega) hg).mono ?_
    rintro e w' ⟨G, cap, rs, h1, h2, h3, h4, h5, h6⟩
    exact ⟨G, cap, rs, h1, h2, ⟨h3, h4⟩, h5, h6⟩
  · intro W B G cap rs hrs hl hcap hg hB
    have hk : rs.length = m := by
      have := congrArg List.length hrs
      rw [List.length_map, linesOf_len] at this
      omega
    have hbd : ∀ r ∈ rs, Ln.Bd 1000000000 r.ln := fun r hr => lines_bd hR.lim _ (hrs ▸ List.mem_map.2 ⟨r, hr, rfl⟩)
    refine (echelon_any n m 10 1000000000 B G m cap W rs hk hl hbd (by decide) (by decide) hn9 hg hB (by have := hR.cols; omega) (by have := hR.len; omega) (by have := hR.len; omega) hcap).mono ?_
    rintro e w' ⟨Dl, Rl, he, hE⟩
    rw [hrs] at hE
    exact ⟨Dl, Rl, he, hE, by have := hE.len; rw [linesOf_len] at this; omega⟩

theorem own_one {B n : Nat} {T : TypeId} {w : World} {u : Value} {xs : List Value} (h : w.ownsRow B T 1 u n xs) : u.oneCell' = true := by
  rcases h.2 with ⟨hv, _⟩ | ⟨g, cap, cur, hv, _⟩
  · rw [hv]; rfl
  · rw [hv]; rfl
theorem MatO.low {w : World} {B C : Nat} {v : Value} {L : List (List Int)} (h : MatO w B v L) (hC : C ≤ B) : MatO w C v L := by
  obtain ⟨us, h1, h2, h3⟩ := h
  exact ⟨us, h1, own_low h2 hC, h3⟩
theorem grown_pre {B0 : Nat} {w4 w5 w6 : World} {o : Obj} {v : Value} (hb : Below w4.heap.size w4 w5) (hv : ∀ k, v.ownBlock = some k → B0 ≤ k) (hg : (w5.alloc o).grownBy w6 v.ownBlock) (hB : B0 ≤ w4.heap.size) : Below B0 w4 w6 :=
  ((hb.mono hB).trans ((nb_alloc w5 o).mono (Nat.le_trans hB hb.size))).trans (grown_below (base := 0) (n := 0) (T := 0) (xs := []) hg (by rw [alloc_size]; have := hb.size; omega) hv)
set_option maxRecDepth 100000 in
set_option maxHeartbeats 1600000 in
theorem form_main (w : World) (v : Value) (M : List (List Int)) (h : MatAt w v M) (h0 : chkM M = 0) (hn0 : 1 ≤ (M.getD 0 []).length) (hn9 : Ln.dg (M.getD 0 []).length 10 ≤ 4000000000) (hG : GOk w) : Calls Tryz.prog 12 #[v] w (FormPost M w) := by
  obtain ⟨i0, hi0, hz0, hz1, hz2⟩ := info_parts Tryz.infoR
  have hR := chkM_zero h0
  have CK := Lib.hid (fun W (hW : Below w.heap.size w W) => check_any W v M (h.nb hW))
  have CO := Lib.hid (fun W (hW : Below w.heap.size w W) => columns_any W v M (h.nb hW))
  have hm0 : 1 ≤ M.length := by
    rcases Nat.eq_zero_or_pos M.length with h | h
    · have hM : M = [] := List.eq_nil_of_length_eq_zero h
      rw [hM] at hn0
      cases hn0
    · exact h
  unfold FormPost
  rw [h0] at CK ⊢
  obtain ⟨n, hn⟩ : ∃ n, n = (M.getD 0 []).length := ⟨_, rfl⟩
  rw [← hn] at CO hR hn0 hn9 ⊢
  obtain ⟨m, hm⟩ : ∃ m, m = M.length := ⟨_, rfl⟩
  rw [← hm] at hm0
  have hml : m ≤ 12 := by have := hR.len; omega
  have hnl : n ≤ 12 := hR.cols
  obtain ⟨LN', EC'⟩ := ech_lines h hR hm.symm hn0 hm0 hn9 hG
  have LN := Lib.hid LN'
  have EC := Lib.hid (fun (W : World) (G cap : Nat) (rs : List LR) (B : Nat) (h : Hid (rs.map LR.ln = linesOf M ∧ Lns n m W B G rs)) (h2 : m ≤ cap) (h3 : GOk W) (h4 : Gb B) => EC' W B G cap rs h.out.1 h.out.2 h2 h3 h4)
  have HR := Lib.hid (And.intro hR hm.symm)
  clear LN' EC' hR hm hn h0 h
  go_enter Tryz.func12, Tryz.ntmps12
  go_wp2_with (first
    | (go_at_call 45; refine (CK.out _ (nb_refl _)).mono ?_; rintro e w1 ⟨rfl, hb1⟩; have hg1 := hG.below hb1)
    | (go_at_call 46; refine (LN.out _ hb1 hg1).mono ?_; rintro e w2 ⟨G, cap, rs, rfl, hcap, hls, hb2, hg2⟩)
    | (go_at_call 48; refine (CO.out _ (nb_trans hb1 hb2)).mono ?_; rintro e w3 ⟨rfl, hb3⟩; have hls3 : Hid (rs.map LR.ln = linesOf M ∧ Lns n m w3 w1.heap.size G rs) := ⟨hls.out.1, hls.out.2.nb hb3⟩)
    | (go_at_call 47; refine (EC.out _ G cap rs w1.heap.size hls3 hcap (hg2.below hb3) hg1.gb).mono ?_; rintro e w4 ⟨Dl, Rl, rfl, hE, hdl⟩; have hdc : (Dl.length : Int) ≤ (cap : Int) := by omega))
  have hcells := hE.out.lns
  have hB1 : Below w.heap.size w w4 := (nb_trans hb1 (nb_trans hb2 hb3)).trans (hE.out.below.mono hb1.size)
  have hok := hE.out.ok
  have HE := Lib.hid (hE.out)
  have HZ : Hid (∀ q ∈ Dl, ∀ x ∈ q.x, Za x) := Lib.hid (by
    intro q hq x hx
    have hb := HE.out.ech.bd q.ln (List.mem_append_left _ (List.mem_map.2 ⟨q, hq, rfl⟩))
    have := (bd_lt10 hb (Ln.gb_lt (show 1000000000 < 10 ^ 10 by decide) n)).1 x hx
    exact this.za (by omega) (Ln.dg_pos (by decide) n))
  have HF := Lib.hid (formOf_ech HR.out.1.row HR.out.2 HE.out.ech)
  have e5 : (Dl.map LR.ln).map (·.1) = Dl.map LR.x := by rw [List.map_map]; rfl
  rw [e5] at HF
  obtain ⟨dn, hdn⟩ : ∃ d, d = Dl.length := ⟨_, rfl⟩
  have HD := Lib.hid hdn.symm
  have hdn12 : dn ≤ 12 := by omega
  rw [← hdn] at hdc ⊢
  have HLX : Hid ((Dl.map LR.x).length = dn) := Lib.hid (by rw [List.length_map, hdn])
  have R0 := Lib.hid hcells
  clear e5 hdn hb1 hb2 hb3 hcells hE hls hls3 hg1 hg2 hdl HE CK CO LN EC
  go_loopw [6, 25] (fun s6 s25 wr => ∃ i : Nat, i ≤ dn ∧ s25 = .int .i64 i ∧ Hid (MatO wr w4.heap.size s6 ((Dl.map LR.x).take i) ∧ ∀ r ∈ (Dl.map LR.x).take i, Lim r) ∧ Below w4.heap.size w4 wr) (fun _ s25 _ => dn - (intOf s25).toNat)
  case atStart => exact ⟨0, Nat.zero_le _, rfl, ⟨MatO.start _ _, by simp⟩, nb_refl _⟩
  case round =>
    obtain ⟨i, hi, rfl, hst, hb⟩ := hrel
    obtain ⟨vo, hvo⟩ : ∃ x, x = u6 := ⟨_, rfl⟩
    subst hvo
    by_cases hid : i < dn
    · obtain ⟨q, hq⟩ : ∃ q, Dl[i]? = some q := ⟨Dl[i]'(by have := HD.out; omega), List.getElem?_eq_getElem _⟩
      have hqm := List.mem_of_getElem? hq
      have hqa : (Dl ++ Rl)[i]? = some q := by rw [List.getElem?_append_left (by rw [HD.out]; exact hid)]; exact hq
      have hl := R0.out.nb hb
      have g1 := hl.xcell hqa
      have g2 := hl.bcell hqa
      rw [Nat.mul_comm] at g1 g2
      unfold LR.xv at g1
      unfold LR.bv at g2
      have hqM := List.mem_of_getElem? hqa
      have hxl := (hl.size q hqM).1
      have SM := Lib.hid (fun W (hW : Below wr.heap.size wr W) (hg : GOk W) => small_any W (.slice (some ⟨q.gx, 0, none⟩) n q.cx) q.x (((hl.rows q hqM).1.nb hW).tx hxl) (HZ.out q hqm) (by omega) hg)
      have hgr := hok.below hb
      have hti : (Dl.map LR.x).getD i [] = q.x ∧ i < (Dl.map LR.x).length := by
        refine ⟨?_, by rw [HLX.out]; exact hid⟩
        rw [List.getD_eq_getElem?_getD, List.getElem?_map, hq]; rfl
      have HT := Lib.hid hti
      have htk : (Dl.map LR.x).take (i + 1) = (Dl.map LR.x).take i ++ [q.x] := by
        rw [List.take_succ_eq_append_getElem hti.2]
        congr 2
        have := hti.1
        rw [List.getD_eq_getElem?_getD, List.getElem?_eq_getElem hti.2] at this
        exact this
      have HTK := Lib.hid htk
      have HQ := Lib.hid hqm
      clear hq hqm hqa hl hqM hxl hti htk
      go_upto_if 36 with (go_at_call 49; refine (SM.out _ (nb_alloc _ _) (hgr.below (nb_alloc _ _))).mono ?_; rintro e w5 ⟨hs, hb5⟩; have hb6 := nb_trans (nb_alloc wr _) hb5; rcases hs with ⟨hlim, u, rfl, hru, hou⟩ | ⟨hlim, rfl⟩)
      · obtain ⟨pu, cu, hue, -, -⟩ := hru.slice_
        subst hue
        obtain ⟨lu, hlu⟩ : ∃ l, l = q.x.length := ⟨_, rfl⟩
        have HLU := Lib.hid hlu
        rw [← hlu] at hru hou ⊢
        clear hlu
        obtain ⟨u, hu⟩ : ∃ u, u = Value.slice pu lu cu := ⟨_, rfl⟩
        rw [← hu] at hru hou
        have HU := Lib.hid hu
        have hmo := (hst.out.1.nb hb6).nb (nb_alloc w5 (.cells #[u] 35))
        obtain ⟨us, hus⟩ := hmo
        have htl : ((Dl.map LR.x).take i).length = i := by rw [List.length_take, HLX.out]; omega
        have hus2 := hus.2.1
        rw [htl] at hus2
        have HUS := Lib.hid hus2
        have h1u : u.oneCell' = true := own_one hou
        have HPU : Hid (∀ w6 v', (w5.alloc (.cells #[u] 35)).grownBy w6 vo.ownBlock → w6.ownsRow w4.heap.size 35 1 v' (i + 1) (us ++ [u]) → MatO w6 w4.heap.size v' ((Dl.map LR.x).take (i + 1))) := Lib.hid (by
          intro w6 v' hg ho
          rw [HTK.out]
          refine MatO.push ⟨us, hus⟩ ⟨by rw [← HLU.out]; exact own_nb2 (own_low hou (Nat.zero_le _)) (nb_alloc w5 _), fun x hx => by have := hlim x hx; unfold I64; omega⟩ hg us hus (by rw [htl]; exact ho))
        have HL1 : Hid (∀ r ∈ (Dl.map LR.x).take (i + 1), Lim r) := Lib.hid (by
          intro r hr
          rw [HTK.out] at hr
          rcases List.mem_append.1 hr with hr | hr
          · exact hst.out.2 r hr
          · rw [List.mem_singleton.1 hr]; exact hlim)
        have HB6 := Lib.hid (hb.trans (hb6.mono hb.size))
        have hsz6 : w4.heap.size ≤ w5.heap.size := HB6.out.size
        have HLO : Hid (∀ k, vo.ownBlock = some k → w4.heap.size ≤ k) := Lib.hid (fun k hk => (HUS.out.lt k hk).1)
        clear hus hus2 htl hru hou hlim hb5 hb6 hst SM HT HQ HU
        rw [hu] at HUS HPU h1u
        clear hu
        clear u
        go_wp2_with (at_builtin; go_loud (refine wpList_append_own _ rfl _ _ 29 rfl w4.heap.size 35 i0 (.slice none 0 0) 1 24 Tryz.underlying29 hi0 hz0 hz1 hz2 rfl (by decide) vo i us rfl HUS.out ⟨w5.heap.size, 0, none⟩ 1 1 [.slice pu lu cu] rfl rfl (cell_one_new _ _ _) (by intro y hy; simp at hy; subst hy; rfl) (by unfold maxLen; omega) (by omega) (by rw [alloc_size]; omega) ?_; intro v' w6 hown6 hgrow6 hnil6))
        have HM6 := Lib.hid (And.intro (HPU.out w6 v' hgrow6 hown6) HL1.out)
        have HB7 : Below w4.heap.size w4 w6 := grown_pre HB6.out HLO.out hgrow6 (Nat.le_refl _)
        clear hown6 hgrow6 hnil6 HPU HL1
        go_wp2_with fail
        go_roundw
        case rel => exact ⟨i + 1, by omega, by go_num, HM6, HB7⟩
        case measure => (simp [intOf]) <;> omega
      · have HNL : Hid (¬ ∀ r ∈ Dl.map LR.x, Lim r) := Lib.hid (fun h => hlim (h q.x (List.mem_map.2 ⟨q, HQ.out, rfl⟩)))
        have HB6 := Lib.hid (hB1.trans ((hb.trans (hb6.mono hb.size)).mono hB1.size))
        clear hlim
        go_wp2_with fail
        go_ret2
        exact ⟨.inr ⟨by first | exact rfl | trivial, _, HF.out, .inr ⟨HNL.out, rfl⟩⟩, HB6.out⟩
    · obtain rfl : i = dn := by omega
      have HE := Lib.hid hst.out
      clear hst
      go_wp2_with fail
      go_ret2
      have h2 := HE.out
      rw [List.take_of_length_le (by rw [HLX.out]; exact Nat.le_refl _)] at h2
      exact ⟨.inr ⟨by first | exact rfl | trivial, _, HF.out, .inl ⟨h2.2, vo, rfl, h2.1.low hB1.size⟩⟩, hB1.trans (hb.mono hB1.size)⟩
/-- Form. -/
theorem form_any (w : World) (v : Value) (M : List (List Int)) (h : MatAt w v M) (hn9 : Ln.dg (M.getD 0 []).length 10 ≤ 4000000000) (hG : GOk w) : Calls Tryz.prog 12 #[v] w (FormPost M w) := by
  by_cases h0 : chkM M = 0
  · by_cases hn : (M.getD 0 []).length = 0
    · exact form_flat w v M h h0 hn
    · exact form_main w v M h h0 (by omega) hn9 hG
  · exact form_bad w v M h h0
end Go.Proofs.YtmfkpmepgbjmkaaGreatDoor
