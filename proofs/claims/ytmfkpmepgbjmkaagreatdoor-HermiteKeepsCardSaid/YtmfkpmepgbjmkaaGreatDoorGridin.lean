/-
  A description, and four small multiples, as they come in at the door.
-/
import Derived.Test.YtmfkpmepgbjmkaaGreatDoorSubl
import Derived.OpenShut
set_option linter.unusedVariables false
set_option linter.unusedSimpArgs false
namespace Go.Proofs.YtmfkpmepgbjmkaaGreatDoor
open Go.ChangeShapes Go.WideShapes Go.ChangeAt Go.RowKit

theorem okWide_array {P : Program} {w : World} {r : Reach} {base n : Nat} {t e : TypeId} {v : Value} (ht : P.underlying t = some (.array n e)) (h : Value.okWide P w r base t v) : ∃ cs, v = .agg cs ∧ cs.size = P.cellsOf t := by
  unfold Value.okWide at h
  rw [ht] at h
  obtain ⟨cs, h1, h2, _⟩ := h
  exact ⟨cs, h1, h2⟩
theorem trodAll_mk3' {H : Type} {enc : TypeId × Value → H} {P : Program} {w : World} {base : Nat} {spare : Nat → Bool} {held : Bool} {t t' t'' : TypeId} {v v' v'' : Value} {d d' d'' : DataW H} {p p' p'' : List MemPlace} (h : DataW.Trod enc P w base spare held t v d p) (h' : DataW.Trod enc P w base spare held t' v' d' p')
    (h'' : DataW.Trod enc P w base spare held t'' v'' d'' p'') : DataW.TrodAll enc P w base spare held [t, t', t''] [v, v', v''] [d, d', d''] (p ++ p' ++ p'') := by
  rw [List.append_assoc]
  exact trodAll_mk3 h h' h''
theorem u8_of_wf {n : Int} (h : (Lit.int .u8 n).wf = true) : ∃ k : Nat, n = k ∧ k < 256 := by
  have := Extern.FmtText.int_bounds h
  simp [IntKind.min, IntKind.max, IntKind.signed, IntKind.bits] at this
  exact ⟨n.toNat, by omega, by omega⟩
theorem i8_of_wf {n : Int} (h : (Lit.int .i8 n).wf = true) : -128 ≤ n ∧ n ≤ 127 := by
  have := Extern.FmtText.int_bounds h
  simp [IntKind.min, IntKind.max, IntKind.signed, IntKind.bits] at this
  omega
theorem take_drop_one {α : Type} {l : List α} {j : Nat} {a : α} (h : (l.drop j).take 1 = [a]) : l[j]? = some a := by
  have h1 : ((l.drop j).take 1)[0]? = some a := by rw [h]; rfl
  rw [List.getElem?_take_of_lt (by decide), List.getElem?_drop] at h1
  exact h1
/-- An array of int8. -/
theorem arr8_in {H : Type} {enc : TypeId × Value → H} {W : World} {base fuel n : Nat} {held : Bool} {t : TypeId} {cs : List Value} {x : DataW H × List MemPlace} (ht : Tryz.prog.underlying t = some (.array n 22))
    (h : DataW.trod enc Tryz.prog W base (fun _ => true) held fuel t cs = some x) : ∃ K : Nat → Int, ∀ i, i < n → cs[i]? = some (.int .i8 (K i)) ∧ -128 ≤ K i ∧ K i ≤ 127 := by
  obtain ⟨xs, m, _, _, _, hlen, hf⟩ := DataW.trod_array ht h
  have hc1 : Tryz.prog.cellsOf 22 = 1 := by kernel_rfl
  have key : ∀ i, i < n → ∃ k : Int, cs[i]? = some (.int .i8 k) ∧ -128 ≤ k ∧ k ≤ 127 := by
    intro i hi
    have h1 := hf i hi
    rw [hc1, Nat.mul_one, List.getElem?_eq_getElem (by omega)] at h1
    obtain ⟨k, hk, _, hw⟩ := DataW.trod_int Tryz.underlying22 h1
    exact ⟨k, take_drop_one hk, i8_of_wf hw⟩
  refine ⟨fun i => if h : i < n then (key i h).choose else 0, fun i hi => ?_⟩
  have := (key i hi).choose_spec
  simp only [hi, dif_pos]
  exact this
theorem four_in {H : Type} {enc : TypeId × Value → H} {W : World} {base fuel : Nat} {held : Bool} {B : Array Value} {x : DataW H × List MemPlace} (hs : B.size = 4)
    (h : DataW.trod enc Tryz.prog W base (fun _ => true) held fuel 26 B.toList = some x) : ∃ K, FourAt (.agg B) K B := by
  obtain ⟨K, hK⟩ := arr8_in Tryz.underlying26 h
  exact ⟨K, rfl, hs, fun i hi => by have := (hK i hi).1; rwa [Array.getElem?_toList] at this, fun i hi => (hK i hi).2⟩
theorem grid_in {H : Type} {enc : TypeId × Value → H} {W : World} {base fuel : Nat} {held : Bool} {A : Array Value} {x : DataW H × List MemPlace} (hs : A.size = 18)
    (h : DataW.trod enc Tryz.prog W base (fun _ => true) held fuel 25 A.toList = some x) : ∃ r c E, GridAt (.agg A) r c E A := by
  obtain ⟨xs, m, _, _, hl, hlen, hf⟩ := DataW.trod_struct Tryz.underlying25 h
  have hc1 : Tryz.prog.cellsOf 5 = 1 := by kernel_rfl
  have hc2 : Tryz.prog.cellsOf 23 = 16 := by kernel_rfl
  have h0 := hf 0 _ rfl
  have h1 := hf 1 _ rfl
  have h2 := hf 2 _ rfl
  have hx3 : xs.length = 3 := hlen
  rw [List.getElem?_eq_getElem (by omega)] at h0 h1 h2
  have h0 : DataW.trod enc Tryz.prog W base (fun _ => true) held m 5 ((A.toList.drop 0).take (Tryz.prog.cellsOf 5)) = some (xs[0]'(by omega)) := h0
  have h1 : DataW.trod enc Tryz.prog W base (fun _ => true) held m 5 ((A.toList.drop 1).take (Tryz.prog.cellsOf 5)) = some (xs[1]'(by omega)) := h1
  have h2 : DataW.trod enc Tryz.prog W base (fun _ => true) held m 23 ((A.toList.drop 2).take (Tryz.prog.cellsOf 23)) = some (xs[2]'(by omega)) := h2
  rw [hc1] at h0 h1
  rw [hc2] at h2
  obtain ⟨a, ha, _, wa⟩ := DataW.trod_int Tryz.underlying5 h0
  obtain ⟨b, hb, _, wb⟩ := DataW.trod_int Tryz.underlying5 h1
  obtain ⟨r, rfl, hr⟩ := u8_of_wf wa
  obtain ⟨c, rfl, hc⟩ := u8_of_wf wb
  obtain ⟨K, hK⟩ := arr8_in Tryz.underlying23 h2
  have e0 := take_drop_one ha
  have e1 := take_drop_one hb
  rw [Array.getElem?_toList] at e0 e1
  refine ⟨r, c, K, rfl, hs, e0, e1, fun i hi => ?_, ⟨hr, hc⟩, fun i hi => (hK i hi).2⟩
  have := (hK i hi).1
  rw [List.getElem?_take_of_lt hi, List.getElem?_drop, Array.getElem?_toList] at this
  exact this
end Go.Proofs.YtmfkpmepgbjmkaaGreatDoor
