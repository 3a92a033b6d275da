/-
  PLAIN MATHEMATICS: numbers in digits to the base 1000000000, the least significant one first.
-/
set_option linter.unusedVariables false
namespace Go.Proofs.YtmfkpmepgbjmkaaGreatDoor

def val : List Int → Int
  | [] => 0
  | d :: r => d + 1000000000 * val r
def Dig (ds : List Int) : Prop := ∀ d ∈ ds, 0 ≤ d ∧ d < 1000000000
/-- No zero at the end. -/
def Top (ds : List Int) : Prop := ds = [] ∨ ds.getD (ds.length - 1) 0 ≠ 0
abbrev B9 : Int := 1000000000

theorem pow_pos9 (k : Nat) : 0 < B9 ^ k := Int.pow_pos (by decide)
theorem Dig.tail {d : Int} {ds : List Int} (h : Dig (d :: ds)) : Dig ds := fun x hx => h x (List.mem_cons_of_mem _ hx)
theorem Dig.head {d : Int} {ds : List Int} (h : Dig (d :: ds)) : 0 ≤ d ∧ d < 1000000000 := h d (List.mem_cons_self ..)
theorem Dig.append {a b : List Int} (ha : Dig a) (hb : Dig b) : Dig (a ++ b) := fun d hd => (List.mem_append.1 hd).elim (ha d) (hb d)
theorem Dig.left {a b : List Int} (h : Dig (a ++ b)) : Dig a := fun d hd => h d (List.mem_append_left _ hd)
theorem Dig.right {a b : List Int} (h : Dig (a ++ b)) : Dig b := fun d hd => h d (List.mem_append_right _ hd)
theorem Dig.take {a : List Int} (h : Dig a) (k : Nat) : Dig (a.take k) := fun d hd => h d (List.mem_of_mem_take hd)
theorem Dig.drop {a : List Int} (h : Dig a) (k : Nat) : Dig (a.drop k) := fun d hd => h d (List.mem_of_mem_drop hd)
theorem Dig.at_ {a : List Int} (h : Dig a) (i : Nat) : 0 ≤ a.getD i 0 ∧ a.getD i 0 < 1000000000 := by
  rw [List.getD_eq_getElem?_getD]
  by_cases hi : i < a.length
  · rw [List.getElem?_eq_getElem hi]
    exact h _ (List.getElem_mem hi)
  · rw [List.getElem?_eq_none (by omega)]
    exact ⟨by simp, by simp⟩
theorem Dig.set {a : List Int} (h : Dig a) (i : Nat) {x : Int} (h0 : 0 ≤ x) (h1 : x < 1000000000) : Dig (a.set i x) := by
  intro d hd
  rcases List.mem_or_eq_of_mem_set hd with hd | rfl
  · exact h d hd
  · exact ⟨h0, h1⟩
theorem Dig.zeros (n : Nat) : Dig (List.replicate n 0) := fun d hd => by rw [List.eq_of_mem_replicate hd]; exact ⟨by decide, by decide⟩

theorem val_append (a b : List Int) : val (a ++ b) = val a + B9 ^ a.length * val b := by
  induction a with
  | nil => simp [val]
  | cons d a ih =>
    show d + 1000000000 * val (a ++ b) = (d + 1000000000 * val a) + B9 ^ (a.length + 1) * val b
    rw [ih, Int.pow_succ]
    generalize B9 ^ a.length = p
    grind
theorem val_nonneg {ds : List Int} (h : Dig ds) : 0 ≤ val ds := by
  induction ds with
  | nil => exact Int.le_refl _
  | cons d ds ih =>
    have := ih h.tail
    have := h.head
    show 0 ≤ d + 1000000000 * val ds
    omega
theorem val_lt {ds : List Int} (h : Dig ds) : val ds < B9 ^ ds.length := by
  induction ds with
  | nil => decide
  | cons d ds ih =>
    have h1 := ih h.tail
    have h2 := h.head
    show d + 1000000000 * val ds < B9 ^ (ds.length + 1)
    rw [Int.pow_succ]
    generalize B9 ^ ds.length = p at *
    have e : p * B9 = 1000000000 * p := Int.mul_comm _ _
    omega
theorem val_zeros (n : Nat) : val (List.replicate n 0) = 0 := by
  induction n with
  | zero => rfl
  | succ n ih => rw [List.replicate_succ]; show 0 + 1000000000 * val _ = 0; rw [ih]; rfl
theorem val_all_zero {ds : List Int} (h : ∀ d ∈ ds, d = 0) : val ds = 0 := by
  induction ds with
  | nil => rfl
  | cons d ds ih =>
    show d + 1000000000 * val ds = 0
    rw [ih (fun x hx => h x (List.mem_cons_of_mem _ hx)), h d (List.mem_cons_self ..)]
    rfl
theorem val_take_drop (ds : List Int) (k : Nat) (hk : k ≤ ds.length) : val ds = val (ds.take k) + B9 ^ k * val (ds.drop k) := by
  have h := val_append (ds.take k) (ds.drop k)
  rw [List.take_append_drop, List.length_take, Nat.min_eq_left hk] at h
  exact h
theorem val_snoc (ds : List Int) (d : Int) : val (ds ++ [d]) = val ds + B9 ^ ds.length * d := by
  rw [val_append]
  show val ds + B9 ^ ds.length * (d + 1000000000 * 0) = _
  simp
/-- One digit more of a list. -/
theorem val_take_succ (ds : List Int) (k : Nat) (hk : k < ds.length) : val (ds.take (k + 1)) = val (ds.take k) + B9 ^ k * ds.getD k 0 := by
  rw [List.take_succ_eq_append_getElem hk, val_snoc, List.length_take, Nat.min_eq_left (by omega)]
  rw [List.getD_eq_getElem?_getD, List.getElem?_eq_getElem hk]
  rfl
theorem val_set (ds : List Int) (k : Nat) (hk : k < ds.length) (x : Int) : val (ds.set k x) = val ds + B9 ^ k * (x - ds.getD k 0) := by
  induction ds generalizing k with
  | nil => simp at hk
  | cons d ds ih =>
    cases k with
    | zero =>
      show x + 1000000000 * val ds = (d + 1000000000 * val ds) + B9 ^ 0 * (x - d)
      rw [Int.pow_zero]
      omega
    | succ k =>
      have := ih k (by simpa using hk)
      show d + 1000000000 * val (ds.set k x) = (d + 1000000000 * val ds) + B9 ^ (k + 1) * (x - ds.getD k 0)
      rw [this, Int.pow_succ]
      generalize B9 ^ k = p
      generalize ds.getD k 0 = y
      grind
theorem val_top {ds : List Int} (h : Dig ds) (ht : ds.getD (ds.length - 1) 0 ≠ 0) (hl : 0 < ds.length) : B9 ^ (ds.length - 1) ≤ val ds := by
  have h1 := val_take_drop ds (ds.length - 1) (by omega)
  have h2 := val_nonneg (h.take (ds.length - 1))
  have h3 : ds.drop (ds.length - 1) = [ds.getD (ds.length - 1) 0] := by
    rw [List.drop_eq_getElem_cons (by omega), List.drop_eq_nil_of_le (by omega), List.getD_eq_getElem?_getD, List.getElem?_eq_getElem (by omega)]
    rfl
  rw [h3] at h1
  have h4 := h.at_ (ds.length - 1)
  have h5 : val [ds.getD (ds.length - 1) 0] = ds.getD (ds.length - 1) 0 := by
    show _ + 1000000000 * 0 = _
    omega
  rw [h5] at h1
  have h6 := pow_pos9 (ds.length - 1)
  have h7 : B9 ^ (ds.length - 1) * 1 ≤ B9 ^ (ds.length - 1) * ds.getD (ds.length - 1) 0 := Int.mul_le_mul_of_nonneg_left (by omega) (by omega)
  omega
theorem pow_le9 {a b : Nat} (h : a ≤ b) : B9 ^ a ≤ B9 ^ b := by
  obtain ⟨c, rfl⟩ := Nat.exists_eq_add_of_le h
  rw [Int.pow_add]
  have h1 := pow_pos9 a
  have h2 := pow_pos9 c
  have h3 : B9 ^ a * 1 ≤ B9 ^ a * B9 ^ c := Int.mul_le_mul_of_nonneg_left (by omega) (by omega)
  omega
/-- The longer one is greater. -/
theorem val_longer {a b : List Int} (ha : Dig a) (hb : Dig b) (tb : Top b) (h : a.length < b.length) : val a < val b := by
  have h1 := val_lt ha
  have h2 := val_top hb (by rcases tb with rfl | h; simp at h; exact h) (by omega)
  have h3 := pow_le9 (show a.length ≤ b.length - 1 by omega)
  omega
/-- The first differing digit from the end decides. -/
theorem val_differ {a b : List Int} (ha : Dig a) (hb : Dig b) (hl : a.length = b.length) {i : Nat} (hi : i < a.length) (hlt : a.getD i 0 < b.getD i 0) (hs : a.drop (i + 1) = b.drop (i + 1)) : val a < val b := by
  have h1 := val_take_drop a (i + 1) (by omega)
  have h2 := val_take_drop b (i + 1) (by omega)
  rw [val_take_succ a i hi] at h1
  rw [val_take_succ b i (by omega)] at h2
  rw [hs] at h1
  have h3 := val_lt (ha.take i)
  have h4 := val_nonneg (hb.take i)
  rw [List.length_take, Nat.min_eq_left (by omega)] at h3
  have h5 := pow_pos9 i
  have h6 : B9 ^ i * (a.getD i 0 + 1) ≤ B9 ^ i * b.getD i 0 := Int.mul_le_mul_of_nonneg_left (by omega) (by omega)
  rw [Int.mul_add] at h6
  omega
/-- Digits with no zero at the end are told by their number. -/
theorem val_inj {a b : List Int} (ha : Dig a) (hb : Dig b) (ta : Top a) (tb : Top b) (h : val a = val b) : a = b := by
  have hl : a.length = b.length := by
    rcases Nat.lt_trichotomy a.length b.length with h1 | h1 | h1
    · have := val_longer ha hb tb h1; omega
    · exact h1
    · have := val_longer hb ha ta h1; omega
  have key : ∀ (a b : List Int), Dig a → Dig b → a.length = b.length → val a = val b → a = b := by
    intro a
    induction a with
    | nil => intro b _ _ hl _; exact (List.eq_nil_of_length_eq_zero (by simpa using hl.symm)).symm
    | cons x a ih =>
      intro b ha hb hl h
      cases b with
      | nil => simp at hl
      | cons y b =>
        have hx := ha.head
        have hy := hb.head
        have h' : x + 1000000000 * val a = y + 1000000000 * val b := h
        have e : x = y := by omega
        have e2 : val a = val b := by omega
        rw [e, ih b ha.tail hb.tail (by simpa using hl) e2]
  exact key a b ha hb hl h
end Go.Proofs.YtmfkpmepgbjmkaaGreatDoor
