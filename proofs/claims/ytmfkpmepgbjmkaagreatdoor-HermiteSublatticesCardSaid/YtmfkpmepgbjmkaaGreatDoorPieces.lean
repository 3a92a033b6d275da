/-
  WALKS: decimal.pieces: trim, compare.
-/
import Derived.Test.YtmfkpmepgbjmkaaGreatDoorFormat
set_option linter.unusedVariables false
set_option linter.unusedSimpArgs false
namespace Go.Proofs.YtmfkpmepgbjmkaaGreatDoor
open Go.RowKit

/-- A slice, from its array's head on, that reads as whole numbers. -/
def Rd (k : IntKind) (w : World) (A : Option Addr) (n : Nat) (ds : List Int) : Prop :=
  ds.length = n ∧ ∀ i, i < n → ∃ g, A = some ⟨g, 0, none⟩ ∧ w.cell? ⟨g, i, none⟩ = some (.int k (ds.getD i 0))
section
variable {k : IntKind} {w w1 : World} {A : Option Addr} {n : Nat} {ds : List Int}
theorem Rd.nb (h : Rd k w A n ds) (hb : Below w.heap.size w w1) : Rd k w1 A n ds :=
  ⟨h.1, fun i hi => by
    obtain ⟨g, e, hc⟩ := h.2 i hi
    exact ⟨g, e, cellB hb hc⟩⟩
theorem Rd.at_ (h : Rd k w A n ds) {i : Nat} (hi : i < n) : ∃ g, A = some ⟨g, 0, none⟩ ∧ w.cell? ⟨g, i, none⟩ = some (.int k (ds.getD i 0)) := h.2 i hi
theorem Rd.some_ (h : Rd k w A n ds) (hn : 0 < n) : ∃ g, A = some ⟨g, 0, none⟩ ∧ ∀ i, i < n → w.cell? ⟨g, i, none⟩ = some (.int k (ds.getD i 0)) := by
  obtain ⟨g, e, _⟩ := h.2 0 hn
  refine ⟨g, e, fun i hi => ?_⟩
  obtain ⟨g', e', hc⟩ := h.2 i hi
  have : g = g' := by rw [e] at e'; injection e' with e'; injection e'
  rw [this]
  exact hc
end
/-- What trim leaves. -/
def Trims (ds : List Int) (m : Nat) : Prop := m ≤ ds.length ∧ (∀ i, m ≤ i → i < ds.length → ds.getD i 0 = 0) ∧ (m = 0 ∨ ds.getD (m - 1) 0 ≠ 0)

def TrimPost (ds : List Int) (A : Option Addr) (c : Nat) (w : World) (e : Ending) (w' : World) : Prop := ∃ m, Trims ds m ∧ e = .returned (.slice A m c) ∧ w = w'
set_option maxRecDepth 100000 in
theorem trim_any (A : Option Addr) (n c : Nat) (ds : List Int) (w : World) (hr : Rd .u64 w A n ds) (hc : n ≤ c) (hn : n ≤ 4611686018427387904) :
    Calls Tryz.prog 138 #[.slice A n c] w (TrimPost ds A c w) := by
  have HL := Lib.hid hr.1
  have HR := Lib.hid hr
  clear hr
  go_enter Tryz.func138, Tryz.ntmps138
  go_wp2_with fail
  go_loop [0] (fun s => ∃ m : Nat, m ≤ n ∧ (∀ i, m ≤ i → i < ds.length → ds.getD i 0 = 0) ∧ s = .slice A m c) (fun s => match s with | .slice _ m _ => m | _ => 0)
  case atStart => exact ⟨n, Nat.le_refl _, fun i h1 h2 => by have := HL.out; omega, rfl⟩
  case round =>
    obtain ⟨m, hm, hz, rfl⟩ := hrel
    have HZ := Lib.hid hz
    clear hz
    by_cases h0 : 0 < m
    · obtain ⟨g, hA, hcell⟩ := HR.out.at_ (i := m - 1) (by omega)
      obtain ⟨j, rfl⟩ : ∃ j, m = j + 1 := ⟨m - 1, by omega⟩
      simp only [Nat.add_sub_cancel] at hcell
      obtain ⟨d, hd⟩ : ∃ d, d = ds.getD j 0 := ⟨_, rfl⟩
      rw [← hd] at hcell
      have HD := Lib.hid hd
      clear hd
      subst hA
      by_cases hd0 : d = 0
      · subst hd0
        go_wp2_with fail
        go_round
        case rel =>
          refine ⟨j, by omega, fun i h1 h2 => ?_, rfl⟩
          by_cases hij : i = j
          · rw [hij]; exact HD.out.symm
          · exact HZ.out i (by omega) h2
        case measure => simp
      · have hd0' : (d == 0) = false := by simpa using hd0
        go_wp2_with fail
        go_ret
        exact ⟨j + 1, ⟨by have := HL.out; omega, HZ.out, .inr (by rw [Nat.add_sub_cancel, ← HD.out]; exact hd0)⟩, rfl, rfl⟩
    · obtain rfl : m = 0 := by omega
      go_wp2_with fail
      go_ret
      exact ⟨0, ⟨by omega, HZ.out, .inl rfl⟩, rfl, rfl⟩
end Go.Proofs.YtmfkpmepgbjmkaaGreatDoor
