/-
  PLAIN LAWS: what isForm, reduce and Index's product say of a form, in the words of the lattice.
-/
import Derived.Test.YtmfkpmepgbjmkaaGreatDoorIndex
import Derived.Test.YtmfkpmepgbjmkaaGreatDoorP1
import Derived.Test.YtmfkpmepgbjmkaaGreatDoorP1
set_option linter.unusedVariables false
set_option linter.unusedSimpArgs false
namespace Go.Proofs.YtmfkpmepgbjmkaaGreatDoor
open Go.RowKit

theorem xrow_out {r : List Int} {j : Nat} (h : r.length ≤ j) : Ln.xrow r j = 0 := by
  unfold Ln.xrow
  rw [List.getD_eq_getElem?_getD, List.getElem?_eq_none h]; rfl
theorem pv_eq {r : List Int} {p : Nat} (hz : ∀ j, j < p → Ln.xrow r j = 0) (hp : Ln.xrow r p ≠ 0) : pv r = p := by
  have hl : p < r.length := by
    by_cases h : p < r.length
    · exact h
    · exact absurd (xrow_out (by omega)) hp
  refine firstAt_unique (pv_first r) (.inr ⟨by omega, by omega, ?_, fun i hi => ?_⟩)
  · rw [Int.toNat_natCast]; exact decide_eq_true hp
  · rw [Int.toNat_natCast] at hi
    have := hz i hi
    show decide (r.getD i 0 ≠ 0) = false
    exact decide_eq_false (by intro h; exact h this)
theorem isFm_of {n : Nat} : ∀ (M D : List (List Int)) (lo : Nat) (b : Int), Hnf.FormU n lo (M.map Ln.xrow) → b + 1 ≤ lo →
    (∀ d ∈ D, ∀ r ∈ M, ∀ q, (∀ j, j < q → Ln.xrow r j = 0) → Ln.xrow r q ≠ 0 → 0 ≤ Ln.xrow d q ∧ Ln.xrow d q < Ln.xrow r q) → isFm D b M = true := by
  intro M
  induction M with
  | nil => intro D lo b _ _ _; rfl
  | cons r M ih =>
    rintro D lo b ⟨p, hlo, hpn, hz, hp, hM, hr⟩ hb hD
    have hpv := pv_eq hz (show Ln.xrow r p ≠ 0 by omega)
    have hp' : r.getD p 0 = Ln.xrow r p := rfl
    rw [isFm_cons, hpv, if_neg (by omega), Int.toNat_natCast, if_neg (by omega), if_neg]
    · refine ih (D ++ [r]) (p + 1) p hM (by omega) ?_
      intro d hd s hs q hq0 hq1
      rcases List.mem_append.1 hd with hd | hd
      · exact hD d hd s (List.mem_cons_of_mem _ hs) q hq0 hq1
      · obtain rfl : d = r := by simpa using hd
        exact hr _ (List.mem_map.2 ⟨s, hs, rfl⟩) q hq0 hq1
    · rintro ⟨i, hi, hu⟩
      have h1 := hD _ (getD_mem [] hi) r (List.mem_cons_self ..) p hz (by omega)
      unfold unfit at hu
      rw [Bool.or_eq_true, decide_eq_true_eq, decide_eq_true_eq] at hu
      have e : (D.getD i []).getD p 0 = Ln.xrow (D.getD i []) p := rfl
      omega
theorem formB_of {n : Nat} {M L : List (List Int)} (h : FormOf n M L) : isFormB L = true :=
  isFm_of L [] 0 (-1) h.form (by omega) (fun d hd => by cases hd)

theorem subL_xrow {k : Int} {a b : List Int} (h : b.length = a.length) : Ln.xrow (subL k a b) = fun j => Ln.xrow a j - k * Ln.xrow b j := by
  funext j
  exact Ln.sub_getD h j
/-- A row of the lattice leaves nothing. -/
theorem redL_iff {n : Nat} : ∀ (F : List (List Int)) (lo : Nat) (x acc : List Int), Hnf.FormU n lo (F.map Ln.xrow) → (∀ r ∈ F, r.length = n) → (F ≠ [] → x.length = n) →
    (Hnf.InL (F.map Ln.xrow) (Ln.xrow x) ↔ ∀ j, Ln.xrow (F.foldl redStep (x, acc)).1 j = 0) := by
  intro F
  induction F with
  | nil => intro lo x acc _ _ _; exact Iff.rfl
  | cons r F ih =>
    rintro lo x acc ⟨p, hlo, hpn, hz, hp, hM, hr⟩ hF hx
    have hpv := pv_eq hz (show Ln.xrow r p ≠ 0 by omega)
    have hrl := hF r (List.mem_cons_self ..)
    have hxl := hx (by simp)
    have hs : r.length = x.length := by omega
    obtain ⟨q, hq⟩ : ∃ q, q = Ln.fq (x.getD (pv r).toNat 0) (r.getD (pv r).toNat 0) := ⟨_, rfl⟩
    have hlen : (subL q x r).length = n := by rw [subL_len hs.symm]; exact hxl
    have h1 := ih (p + 1) (subL q x r) (acc ++ [q]) hM (fun r' hr' => hF r' (List.mem_cons_of_mem _ hr')) (fun _ => hlen)
    have e : (r :: F).foldl redStep (x, acc) = F.foldl redStep (subL q x r, acc ++ [q]) := by rw [hq]; rfl
    rw [e, ← h1, subL_xrow hs]
    constructor
    · rintro ⟨k, hk⟩
      have h2 : Ln.xrow x p - k * Ln.xrow r p = 0 := hM.form.vanish hk p (by omega)
      have : q = k := by
        rw [hq, hpv, Int.toNat_natCast]
        symm
        refine Ln.fq_unique (r := 0) (show Ln.xrow r p ≠ 0 by omega) ?_ (.inl ⟨Int.le_refl 0, hp⟩)
        show Ln.xrow x p = Ln.xrow r p * k + 0
        rw [Int.mul_comm]; omega
      rw [this]; exact hk
    · intro h; exact ⟨q, h⟩
theorem pv_zero (r : List Int) : (∀ j, Ln.xrow r j = 0) ↔ ¬ (0 ≤ pv r) := by
  rcases pv_spec r with ⟨h, h1⟩ | ⟨h, h1, h2, _⟩
  · constructor
    · intro _; omega
    · intro _ j
      by_cases hj : j < r.length
      · exact h1 j hj
      · exact xrow_out (by omega)
  · constructor
    · intro h3; exact absurd (h3 _) h2
    · intro h3; exact absurd h h3
theorem hasB_iff {n : Nat} {M F : List (List Int)} (h : FormOf n M F) {x : List Int} (hx : F ≠ [] → x.length = n) : hasB F x = true ↔ Hnf.InL (F.map Ln.xrow) (Ln.xrow x) := by
  have h1 : _ ↔ ∀ j, Ln.xrow (redL F x).1 j = 0 := redL_iff F 0 x [] h.form h.len hx
  rw [h1, pv_zero]
  unfold hasB
  simp
theorem inclB_iff {n : Nat} {M F S : List (List Int)} (h : FormOf n M F) (hS : F ≠ [] → ∀ x ∈ S, x.length = n) : inclB F S = true ↔ ∀ x ∈ S, Hnf.InL (F.map Ln.xrow) (Ln.xrow x) := by
  unfold inclB
  rw [Bool.not_eq_true', decide_eq_false_iff_not]
  constructor
  · intro h1 x hx
    obtain ⟨i, hi, rfl⟩ := List.mem_iff_getElem.1 hx
    refine (hasB_iff h (fun hF => hS hF _ hx)).1 ?_
    cases hb : hasB F S[i] with
    | true => rfl
    | false => exact absurd ⟨i, hi, by rw [List.getD_eq_getElem?_getD, List.getElem?_eq_getElem hi]; simp [hb]⟩ h1
  · rintro h1 ⟨i, hi, hb⟩
    have h2 := (hasB_iff h (fun hF => hS hF _ (getD_mem [] hi))).2 (h1 _ (getD_mem [] hi))
    rw [h2] at hb
    cases hb
/-- The lattice of a matrix, from the walk's answer. -/
theorem FormOf.mem {n : Nat} {M F : List (List Int)} (h : FormOf n M F) {x : List Int} (hx : x ∈ M) : Hnf.InL (F.map Ln.xrow) (Ln.xrow x) :=
  (h.same _).1 (.mem (List.mem_map.2 ⟨x, hx, rfl⟩))
theorem FormOf.self {n : Nat} {M F : List (List Int)} (h : FormOf n M F) : FormOf n F F := ⟨h.form, Hnf.Same.refl _, h.len⟩
theorem FormOf.of_same {n : Nat} {M M' F : List (List Int)} (h : FormOf n M F) (hs : Hnf.Same (M'.map Ln.xrow) (M.map Ln.xrow)) : FormOf n M' F := ⟨h.form, hs.trans h.same, h.len⟩
/-- Small rows: the form is within the limit. -/
theorem FormOf.lim {n : Nat} {M F : List (List Int)} (h : FormOf n M F) (hn : n ≤ 4) (hM : ∀ r ∈ M, ∀ x ∈ r, x.natAbs ≤ 20) : ∀ r ∈ F, Lim r := by
  have hx : ∀ a ∈ M.map Ln.xrow, ∀ j, (a j).natAbs ≤ 20 := by
    intro a ha j
    obtain ⟨r, hr, rfl⟩ := List.mem_map.1 ha
    by_cases hj : j < r.length
    · exact hM r hr _ (getD_mem 0 hj)
    · rw [xrow_out (by omega)]; decide
  have h4 : ∀ f ∈ F.map Ln.xrow, ∀ j, 4 ≤ j → f j = 0 := by
    intro f hf j hj
    obtain ⟨r, hr, rfl⟩ := List.mem_map.1 hf
    exact xrow_out (by rw [h.len r hr]; omega)
  have hb := Hnf.form_bound hx (h.form.mono hn) h.same h4
  intro r hr x hx
  obtain ⟨i, hi, rfl⟩ := List.mem_iff_getElem.1 hx
  have h1 : (Ln.xrow r i).natAbs ≤ 1000000000 := hb _ (List.mem_map.2 ⟨r, hr, rfl⟩) i
  have e : Ln.xrow r i = r[i] := by
    unfold Ln.xrow
    rw [List.getD_eq_getElem?_getD, List.getElem?_eq_getElem hi]; rfl
  rw [e] at h1
  omega
theorem FormOf.rank_le {n : Nat} {M F : List (List Int)} (h : FormOf n M F) : F.length ≤ M.length := by
  have := Hnf.we_rank (M.map Ln.xrow) (F.map Ln.xrow) 0 h.form.form.we (fun f hf => (h.same f).2 (.mem hf))
  simpa using this
theorem FormOf.rank_col {n : Nat} {M F : List (List Int)} (h : FormOf n M F) : F.length ≤ n := by
  have key : ∀ (A : List Hnf.Row) (lo : Nat), lo ≤ n → Hnf.FormU n lo A → lo + A.length ≤ n := by
    intro A
    induction A with
    | nil => intro lo h _; exact h
    | cons a A ih =>
      rintro lo _ ⟨p, h1, h2, _, _, h3, _⟩
      have := ih (p + 1) (by omega) h3
      rw [List.length_cons]; omega
  have := key _ 0 (Nat.zero_le _) h.form
  simpa using this

/-! ### Index's product -/
def idxProd : List (List Int) → List (List Int) → Int
  | r :: F, l :: L => idxQ r l * idxProd F L
  | _, _ => 1
theorem idxL_cons (r l : List Int) (F L : List (List Int)) : ∀ i, idxL (r :: F) (l :: L) (i + 1) = idxQ r l * idxL F L i := by
  intro i
  induction i with
  | zero => show (1 : Int) * idxQ r l = idxQ r l * 1; rw [Int.one_mul, Int.mul_one]
  | succ i ih =>
    show idxL (r :: F) (l :: L) (i + 1) * idxQ (F.getD i []) (L.getD i []) = idxQ r l * (idxL F L i * idxQ (F.getD i []) (L.getD i []))
    rw [ih, Int.mul_assoc]
theorem idxL_prod : ∀ (F L : List (List Int)), F.length ≤ L.length → idxL F L F.length = idxProd F L := by
  intro F
  induction F with
  | nil => intro L _; cases L <;> rfl
  | cons r F ih =>
    intro L h
    cases L with
    | nil => simp at h
    | cons l L =>
      rw [List.length_cons, idxL_cons, ih L (by simpa using h)]
      rfl
/-- The pivots' quotients, times the pivots of the form, are the pivots of the sublattice's form. -/
theorem idxProd_eq : ∀ (F L : List (List Int)) (lo lo' : Nat) (P Q : Int), Hnf.EP lo (F.map Ln.xrow) P → Hnf.EP lo' (L.map Ln.xrow) Q → L.length = F.length → (∀ x, Hnf.InL (L.map Ln.xrow) x → Hnf.InL (F.map Ln.xrow) x) →
    idxProd F L * P = Q := by
  intro F
  induction F with
  | nil =>
    intro L lo lo' P Q hP hQ hl _
    have : L = [] := List.eq_nil_of_length_eq_zero (by simpa using hl)
    subst this
    have hP : P = 1 := hP
    have hQ : Q = 1 := hQ
    rw [hP, hQ]; rfl
  | cons a F ih =>
    intro L lo lo' P Q hP hQ hl hin
    cases L with
    | nil => simp at hl
    | cons b L =>
      obtain ⟨p, P', hlo, hz, hp, hF, rfl⟩ := hP
      obtain ⟨q, Q', hlo', hz', hq, hL, rfl⟩ := hQ
      have wF : Hnf.WE p ((a :: F).map Ln.xrow) := ⟨p, Nat.le_refl _, hz, by omega, hF.we⟩
      have wL : Hnf.WE q ((b :: L).map Ln.xrow) := ⟨q, Nat.le_refl _, hz', by omega, hL.we⟩
      have hb : Hnf.InL ((a :: F).map Ln.xrow) (Ln.xrow b) := hin _ (.head _ _)
      have hpq : p = q := by
        rcases Nat.lt_trichotomy p q with h1 | h1 | h1
        · exfalso
          have h2 : ∀ f ∈ (b :: L).map Ln.xrow, Hnf.InL (F.map Ln.xrow) f := fun f hf =>
            Hnf.WE.below hF.we (show Ln.xrow a p ≠ 0 by omega) (hin f (.mem hf)) (wL.vanish (.mem hf) p h1)
          have := Hnf.we_rank _ _ q wL h2
          simp only [List.length_map, List.length_cons] at this hl
          omega
        · exact h1
        · have := wF.vanish hb q h1; omega
      subst hpq
      obtain ⟨k, hk⟩ := hb
      have e1 : Ln.xrow b p - k * Ln.xrow a p = 0 := hF.we.vanish hk p (by omega)
      have hqk : idxQ a b = k := by
        unfold idxQ
        rw [pv_eq hz (show Ln.xrow a p ≠ 0 by omega), Int.toNat_natCast]
        symm
        refine Ln.fq_unique (r := 0) (show Ln.xrow a p ≠ 0 by omega) ?_ (.inl ⟨Int.le_refl 0, hp⟩)
        show Ln.xrow b p = Ln.xrow a p * k + 0
        rw [Int.mul_comm]; omega
      have h3 := ih L (p + 1) (p + 1) P' Q' hF hL (by simpa using hl) (fun x hx =>
        Hnf.WE.below hF.we (show Ln.xrow a p ≠ 0 by omega) (hin x hx.tail) (hL.we.vanish hx p (by omega)))
      show idxQ a b * idxProd F L * (Ln.xrow a p * P') = Ln.xrow b p * Q'
      rw [hqk, ← h3]
      have e2 : Ln.xrow b p = k * Ln.xrow a p := by omega
      rw [e2]
      grind
/-- The index of the lattice of multiplied rows. -/
theorem idx_scaled {n : Nat} {M S F L : List (List Int)} {ks : List Int} (hF : FormOf n M F) (hL : FormOf n S L) (hl : ks.length = M.length) (hk : ∀ k ∈ ks, k ≠ 0)
    (hS : S.map Ln.xrow = Hnf.scl ks (M.map Ln.xrow)) : F.length ≤ L.length ∧ (F.length = M.length → idxL F L F.length = Hnf.prodAbs ks) := by
  have hlm : ks.length = (M.map Ln.xrow).length := by simpa using hl
  have h1 : F.length ≤ L.length := by
    obtain ⟨K, hK, hin⟩ := Hnf.scl_mult ks (M.map Ln.xrow) hlm hk
    have := Hnf.we_rank (L.map Ln.xrow) _ 0 (hF.form.form.we.smul hK) (by
      intro f hf
      obtain ⟨a, ha, rfl⟩ := List.mem_map.1 hf
      have := hin a ((hF.same a).2 (.mem ha))
      rw [← hS] at this
      exact (hL.same _).1 this)
    simpa using this
  have hincl : ∀ x, Hnf.InL (L.map Ln.xrow) x → Hnf.InL (F.map Ln.xrow) x := by
    intro x hx
    refine (hF.same x).1 (Hnf.InL.of_all (fun a ha => ?_) ((hL.same x).2 hx))
    rw [hS] at ha
    exact Hnf.scl_in ks _ a ha
  have h2 : L.length ≤ F.length := by
    have := Hnf.we_rank (F.map Ln.xrow) (L.map Ln.xrow) 0 hL.form.form.we (fun f hf => hincl f (.mem hf))
    simpa using this
  refine ⟨h1, fun hr => ?_⟩
  obtain ⟨P, hP⟩ := hF.form.form.ep
  obtain ⟨Q, hQ⟩ := hL.form.form.ep
  obtain ⟨G, hG, hGl, hGs⟩ := Hnf.chain_scale (M.map Ln.xrow) ks [] (F.map Ln.xrow) P hlm hk hP hF.same (by simpa using hr)
  have e1 : Q = P * Hnf.prodAbs ks := hQ.unique hG (by
    have h3 : Hnf.Same (Hnf.scl ks (M.map Ln.xrow)) G := hGs
    rw [← hS] at h3
    exact hL.same.symm.trans h3)
  have e2 := idxProd_eq F L 0 0 P Q hP hQ (by omega) hincl
  rw [idxL_prod F L h1]
  have hp := hP.pos
  refine Int.eq_of_mul_eq_mul_right (a := P) (by omega) ?_
  rw [e2, e1, Int.mul_comm]
end Go.Proofs.YtmfkpmepgbjmkaaGreatDoor
