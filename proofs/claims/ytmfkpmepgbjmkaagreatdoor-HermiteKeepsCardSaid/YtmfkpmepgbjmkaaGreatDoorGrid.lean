/-
  WALKS: the laws' Line and Make: the matrix of a description.
-/
import Derived.Test.YtmfkpmepgbjmkaaGreatDoorHas
import Derived.Test.YtmfkpmepgbjmkaaGreatDoorG7
set_option linter.unusedVariables false
set_option linter.unusedSimpArgs false
namespace Go.Proofs.YtmfkpmepgbjmkaaGreatDoor
open Go.RowKit

/-- A description, as it is handed over. -/
structure GridAt (v : Value) (r c : Nat) (E : Nat → Int) (A : Array Value) : Prop where
  val : v = .agg A
  size : A.size = 18
  rows : A[0]? = some (.int .u8 r)
  cols : A[1]? = some (.int .u8 c)
  ent : ∀ i, i < 16 → A[2 + i]? = some (.int .i8 (E i))
  rb : r < 256 ∧ c < 256
  eb : ∀ i, i < 16 → -128 ≤ E i ∧ E i ≤ 127
def lineL (c : Nat) (E : Nat → Int) (i : Nat) : List Int := (List.range (1 + c % 4)).map fun k => (E (4 * (i % 4) + k)).tmod 21
def makeL (r c : Nat) (E : Nat → Int) : List (List Int) := (List.range (r % 5)).map (lineL c E)
theorem lineL_len (c : Nat) (E : Nat → Int) (i : Nat) : (lineL c E i).length = 1 + c % 4 := by simp [lineL]
theorem makeL_len (r c : Nat) (E : Nat → Int) : (makeL r c E).length = r % 5 := by simp [makeL]
theorem lineL_at (c : Nat) (E : Nat → Int) (i : Nat) {k : Nat} (hk : k < 1 + c % 4) : (lineL c E i).getD k 0 = (E (4 * (i % 4) + k)).tmod 21 := by
  unfold lineL
  rw [List.getD_eq_getElem?_getD, List.getElem?_map, List.getElem?_range hk]; rfl
theorem makeL_at (r c : Nat) (E : Nat → Int) {i : Nat} (hi : i < r % 5) : (makeL r c E).getD i [] = lineL c E i := by
  unfold makeL
  rw [List.getD_eq_getElem?_getD, List.getElem?_map, List.getElem?_range hi]; rfl
theorem tmod21 (x : Int) : -20 ≤ x.tmod 21 ∧ x.tmod 21 ≤ 20 := by
  have h1 := Int.tmod_lt_of_pos x (show (0 : Int) < 21 by decide)
  have h2 := Int.lt_tmod_of_pos x (show (0 : Int) < 21 by decide)
  omega
theorem lineL_small (c : Nat) (E : Nat → Int) (i : Nat) : ∀ x ∈ lineL c E i, -20 ≤ x ∧ x ≤ 20 := by
  intro x hx
  unfold lineL at hx
  obtain ⟨k, _, rfl⟩ := List.mem_map.1 hx
  exact tmod21 _

theorem cell_new (w : World) (A : Array Value) (t : TypeId) {j : Nat} {v : Value} (h : A[j]? = some v) : (w.alloc (.cells A t)).cell? ⟨w.heap.size, j, none⟩ = some v := by
  rw [cell_of_row (w.alloc (.cells A t)) w.heap.size j A t (0, 0) (by simp [World.alloc, -World.alloc_eq])]
  exact h
theorem Tryz.infoG : (Tryz.prog.info? 25).map (fun i => (i.size, i.bytes)) = some (18, 18) := by kernel_rfl

set_option maxRecDepth 100000 in
set_option maxHeartbeats 1600000 in
theorem line_any (w : World) (v : Value) (r c : Nat) (E : Nat → Int) (A : Array Value) (hv : GridAt v r c E A) (i : Nat) (hi4 : i < 4) :
    Calls Tryz.prog 44 #[v, .int .i64 i] w fun e w' => ∃ u, e = .returned u ∧ w'.ownsRow w.heap.size 3 1 u (1 + c % 4) (ints (lineL c E i)) ∧ Below w.heap.size w w' := by
  obtain ⟨i0, hi0, hz0, hz1, hz2⟩ := info_parts Tryz.infoI
  obtain ⟨rfl, hsz, hr, hc, he, hrb, heb⟩ := hv
  have HB := Lib.hid (nb_alloc w (.cells A 25))
  obtain ⟨g, hg⟩ : ∃ g, g = w.heap.size := ⟨_, rfl⟩
  obtain ⟨w1, hw1⟩ : ∃ w1, w1 = w.alloc (.cells A 25) := ⟨_, rfl⟩
  have hcell : ∀ (j : Nat) (v : Value), A[j]? = some v → w1.cell? ⟨g, j, none⟩ = some v := fun j v h => by rw [hw1, hg]; exact cell_new w A _ h
  rw [← hw1] at HB
  have HE := Lib.hid (fun j hj => hcell (2 + j) _ (he j hj))
  have hc1 := hcell 1 _ hc
  have HEB := Lib.hid heb
  have HG := Lib.hid hg
  have HW := Lib.hid hw1
  clear he hr hc hsz hcell hg hw1 heb
  obtain ⟨hrb, hcb⟩ := hrb
  obtain ⟨n, hn⟩ : ∃ n, n = 1 + c % 4 := ⟨_, rfl⟩
  have hn4 : n ≤ 4 := by omega
  rw [← hn]
  have HN := Lib.hid hn
  clear hn
  go_enter Tryz.func44, Tryz.ntmps44
  go_upto_region 1 with fail
  rw [← HG.out, ← HW.out]
  go_wp2_with fail
  have hs5 : (1 + (c : Int) % 4) = (n : Int) := by have := HN.out; omega
  rw [hs5]
  clear hs5
  go_loopw [6, 7] (fun s6 s7 wr => ∃ k : Nat, k ≤ n ∧ s7 = .int .i64 k ∧ Hid (wr.ownsRow w1.heap.size 3 1 s6 k (ints ((lineL c E i).take k))) ∧ Below w1.heap.size w1 wr) (fun _ s7 _ => n - (intOf s7).toNat)
  case atStart => exact ⟨0, Nat.zero_le _, rfl, World.ownsRow_nil _ _ _ _, nb_refl _⟩
  case round =>
    obtain ⟨k, hk, rfl, hst, hb⟩ := hrel
    obtain ⟨vo, hvo⟩ : ∃ x, x = u6 := ⟨_, rfl⟩
    subst hvo
    by_cases hkn : k < n
    · have he := cellB hb (HE.out (4 * (i % 4) + k) (by omega))
      have heb := HEB.out (4 * (i % 4) + k) (by omega)
      obtain ⟨x, hx⟩ : ∃ x, x = E (4 * (i % 4) + k) := ⟨_, rfl⟩
      rw [← hx] at he heb
      have hli : k < (lineL c E i).length := by rw [lineL_len]; have := HN.out; omega
      have hlk : (lineL c E i).getD k 0 = x.tmod 21 := by rw [lineL_at c E i (by have := HN.out; omega), hx]
      have HL := Lib.hid (And.intro hlk hli)
      have hb' := HB.out.trans (hb.mono HB.out.size)
      have hsz := hb.size
      have HOW := Lib.hid hst.out
      clear hx hli hlk
      go_wp2_with (at_builtin; refine wpList_append_own _ rfl _ _ 35 rfl w1.heap.size 3 i0 (.int .i64 0) 1 8 Tryz.underlying35 hi0 hz0 hz1 hz2 rfl (by decide) vo k _ rfl (hst.out.alloc _) ⟨wr.heap.size, 0, none⟩ 1 1 [.int .i64 (x.tmod 21)] rfl rfl (cell_one_new _ _ _) (by intro u hu; simp at hu; subst hu; rfl) (by unfold maxLen; omega) (by omega) (by rw [alloc_size]; omega) ?_; intro v' w3 hown3 hgrow3 hnil3)
      have HB3 : Below w1.heap.size w1 w3 := (hb.trans ((nb_alloc wr _).mono hb.size)).trans (grown_below (base := 0) (n := 0) (T := 0) (xs := []) hgrow3 (by rw [alloc_size]; have := hb.size; omega) (fun k hk => (HOW.out.lt k hk).1))
      have HO3 : Hid (w3.ownsRow w1.heap.size 3 1 v' (k + 1) (ints ((lineL c E i).take (k + 1)))) := Lib.hid (by
        rw [← HL.out.1, ints_take HL.out.2] at hown3; exact hown3)
      clear hown3 hgrow3 hnil3
      go_wp2_with fail
      go_roundw
      case rel => exact ⟨k + 1, by omega, by go_num, HO3, HB3⟩
      case measure => (simp [intOf]) <;> omega
    · obtain rfl : k = n := by omega
      have HO := Lib.hid hst.out
      clear hst
      go_wp2_with fail
      go_ret
      have h2 := HO.out
      rw [List.take_of_length_le (by rw [lineL_len]; have := HN.out; omega)] at h2
      exact ⟨vo, rfl, own_low h2 HB.out.size, HB.out.trans (hb.mono HB.out.size)⟩

/-- A matrix that is made, with its rows' values. -/
def MatU (w : World) (B : Nat) (v : Value) (L : List (List Int)) (us : List Value) : Prop :=
  us.length = L.length ∧ w.ownsRow B 35 1 v L.length us ∧ ∀ i, i < L.length → OwnI w (us.getD i (.slice none 0 0)) (L.getD i [])
theorem MatU.app {wr w5 w6 : World} {B : Nat} {vo v' u : Value} {L : List (List Int)} {xs : List Int} {us : List Value} (hus : MatU wr B vo L us) (hb : Below wr.heap.size wr w5) (hu : OwnI w5 u xs) (o : Obj)
    (hg : (w5.alloc o).grownBy w6 vo.ownBlock) (ho : w6.ownsRow B 35 1 v' (L.length + 1) (us ++ [u])) : MatO w6 B v' (L ++ [xs]) := by
  have hb2 := nb_trans hb (nb_alloc w5 o)
  exact MatO.push ⟨us, hus.1, own_nb2 hus.2.1 hb2, fun i hi => (hus.2.2 i hi).nb hb2⟩ (hu.nb (nb_alloc w5 o)) hg us ⟨hus.1, own_nb2 hus.2.1 hb2, fun i hi => (hus.2.2 i hi).nb hb2⟩ ho
theorem take_succ_getD {α : Type} (d : α) {l : List α} {i : Nat} (h : i < l.length) : l.take (i + 1) = l.take i ++ [l.getD i d] := by
  rw [List.take_succ_eq_append_getElem h, List.getD_eq_getElem?_getD, List.getElem?_eq_getElem h]; rfl
theorem own_slice {w : World} {B n : Nat} {T : TypeId} {u : Value} {xs : List Value} (h : w.ownsRow B T 1 u n xs) : ∃ p c, u = .slice p n c := by
  rcases h.2 with ⟨rfl, rfl⟩ | ⟨g, cap, cur, rfl, _⟩
  · exact ⟨_, _, rfl⟩
  · exact ⟨_, _, rfl⟩
set_option maxRecDepth 100000 in
set_option maxHeartbeats 1600000 in
theorem make_any (w : World) (v : Value) (r c : Nat) (E : Nat → Int) (A : Array Value) (hv : GridAt v r c E A) :
    Calls Tryz.prog 11 #[v] w fun e w' => ∃ u, e = .returned u ∧ MatO w' w.heap.size u (makeL r c E) ∧ Below w.heap.size w w' := by
  obtain ⟨i0, hi0, hz0, hz1, hz2⟩ := info_parts Tryz.infoR
  have LI := Lib.hid (fun W (i : Nat) (hi : i < 4) => line_any W v r c E A hv i hi)
  obtain ⟨rfl, hsz, hr, hc, he, hrb, heb⟩ := hv
  have HB := Lib.hid (nb_alloc w (.cells A 25))
  obtain ⟨g, hg⟩ : ∃ g, g = w.heap.size := ⟨_, rfl⟩
  obtain ⟨w1, hw1⟩ : ∃ w1, w1 = w.alloc (.cells A 25) := ⟨_, rfl⟩
  have hcell : ∀ (j : Nat) (v : Value), A[j]? = some v → w1.cell? ⟨g, j, none⟩ = some v := fun j v h => by rw [hw1, hg]; exact cell_new w A _ h
  rw [← hw1] at HB
  have hr1 := hcell 0 _ hr
  have HH : Hid (w1.heap[g]? = some (.cells A 25 (0, 0))) := Lib.hid (by rw [hw1, hg]; simp [World.alloc, -World.alloc_eq])
  have HSZ : Hid ((Tryz.prog.info? 25).map (·.size) = some A.size) := Lib.hid (by rw [hsz]; kernel_rfl)
  have HG := Lib.hid hg
  have HW := Lib.hid hw1
  clear he hr hc hsz hcell hg hw1 heb
  obtain ⟨hrb, hcb⟩ := hrb
  obtain ⟨n, hn⟩ : ∃ n, n = r % 5 := ⟨_, rfl⟩
  have hn4 : n ≤ 4 := by omega
  have HN := Lib.hid hn
  obtain ⟨L, hL⟩ : ∃ L, L = makeL r c E := ⟨_, rfl⟩
  have HLL : Hid (L.length = n ∧ ∀ i, i < n → L.getD i [] = lineL c E i) := Lib.hid (by rw [hL, hn]; exact ⟨makeL_len r c E, fun i hi => makeL_at r c E hi⟩)
  rw [← hL]
  clear hn hL
  go_enter Tryz.func11, Tryz.ntmps11
  go_upto_region 1 with fail
  rw [← HG.out, ← HW.out]
  go_wp2_with fail
  go_loopw [3, 4] (fun s3 s4 wr => ∃ i : Nat, i ≤ n ∧ s4 = .int .i64 i ∧ Hid (MatO wr w1.heap.size s3 (L.take i)) ∧ Below w1.heap.size w1 wr) (fun _ s4 _ => n - (intOf s4).toNat)
  case atStart => exact ⟨0, Nat.zero_le _, rfl, MatO.start _ _, nb_refl _⟩
  case round =>
    obtain ⟨i, hi, rfl, hst, hb⟩ := hrel
    obtain ⟨vo, hvo⟩ : ∃ x, x = u3 := ⟨_, rfl⟩
    subst hvo
    have hr2 := cellB hb hr1
    have hgr := Lib.hid ((hb.block g (by rw [HG.out, HW.out, alloc_size]; omega)).trans HH.out)
    have hcond : ((i : Int) < (r : Int) % 5) = ((i : Int) < (n : Int)) := by have := HN.out; rw [show (r : Int) % 5 = (n : Int) by omega]
    by_cases hid : i < n
    · have HT := Lib.hid (And.intro (HLL.out.2 i hid) (show i < L.length by rw [HLL.out.1]; exact hid))
      obtain ⟨l, hl⟩ : ∃ l, l = (L.getD i []).length := ⟨_, rfl⟩
      have LI' : Hid (Calls Tryz.prog 44 #[.agg A, .int .i64 i] wr fun e w' => ∃ pu cu, e = .returned (.slice pu l cu) ∧ OwnI w' (.slice pu l cu) (L.getD i []) ∧ Below wr.heap.size wr w') := Lib.hid ((LI.out wr i (by omega)).mono (by
        rintro e w' ⟨u, rfl, hown, hb5⟩
        have e1 : l = 1 + c % 4 := by rw [hl, HT.out.1, lineL_len]
        rw [← e1] at hown
        obtain ⟨pu, cu, rfl⟩ := own_slice hown
        refine ⟨pu, cu, rfl, ⟨by rw [← hl, HT.out.1]; exact own_low hown (Nat.zero_le _), ?_⟩, hb5⟩
        rw [HT.out.1]
        intro x hx
        have := lineL_small c E i x hx
        unfold I64; omega))
      obtain ⟨us, hus⟩ := hst.out
      have HUS : Hid (MatU wr w1.heap.size vo (L.take i) us) := hus
      have htl : (L.take i).length = i := by rw [List.length_take]; have := HT.out.2; omega
      have HTL := Lib.hid htl
      have HUO : Hid (wr.ownsRow w1.heap.size 35 1 vo i us) := Lib.hid (by have := hus.2.1; rw [htl] at this; exact this)
      have hsz := hb.size
      have HLO : Hid (∀ k, vo.ownBlock = some k → w1.heap.size ≤ k) := Lib.hid (fun k hk => (HUO.out.lt k hk).1)
      clear hus htl hst hl LI HLL
      go_wp2_with (first
        | (refine wpList_load_row rfl 25 _ rfl g rfl _ A (0, 0) _ hgr.out Tryz.underlying25 rfl HSZ.out ?_)
        | (go_at_call 44; refine LI'.out.mono ?_; rintro e w5 ⟨pu, cu, rfl, hown, hb5⟩; have HOW := Lib.hid hown; have hs5 := hb5.size; clear hown)
        | (at_builtin; refine wpList_append_own _ rfl _ _ 29 rfl w1.heap.size 35 i0 (.slice none 0 0) 1 24 Tryz.underlying29 hi0 hz0 hz1 hz2 rfl (by decide) vo i us rfl (own_nb2 HUO.out (nb_trans hb5 (nb_alloc _ _))) ⟨w5.heap.size, 0, none⟩ 1 1 [.slice pu l cu] rfl rfl (cell_one_new _ _ _) (by intro y hy; simp at hy; subst hy; rfl) (by unfold maxLen; omega) (by omega) (by rw [alloc_size]; omega) ?_; intro v' w6 hown6 hgrow6 hnil6))
      have HM6 : Hid (MatO w6 w1.heap.size v' (L.take (i + 1))) := Lib.hid (by
        rw [take_succ_getD [] HT.out.2]
        exact MatU.app HUS.out hb5 HOW.out _ hgrow6 (by rw [HTL.out]; exact hown6))
      have HB7 : Below w1.heap.size w1 w6 := grown_pre (hb.trans (hb5.mono hb.size)) HLO.out hgrow6 (Nat.le_refl _)
      clear hown6 hgrow6 hnil6
      go_roundw
      case rel => exact ⟨i + 1, by omega, by go_num, HM6, HB7⟩
      case measure => (simp [intOf]) <;> omega
    · obtain rfl : i = n := by omega
      have HE := Lib.hid hst.out
      clear hst
      go_wp2_with fail
      go_ret
      have h2 := HE.out
      rw [List.take_of_length_le (by rw [HLL.out.1]; exact Nat.le_refl _)] at h2
      exact ⟨vo, rfl, h2.low HB.out.size, HB.out.trans (hb.mono HB.out.size)⟩
end Go.Proofs.YtmfkpmepgbjmkaaGreatDoor
