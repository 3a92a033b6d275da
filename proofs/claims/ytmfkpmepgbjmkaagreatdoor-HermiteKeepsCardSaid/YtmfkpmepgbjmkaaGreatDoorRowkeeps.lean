/-
  HermiteKeeps: for every input, the law returns true, and the input reads as it did: the row, and the card that ties the listed variables to the program's text.
-/
import Derived.Test.YtmfkpmepgbjmkaaGreatDoorKeeps
import Derived.Test.YtmfkpmepgbjmkaaGreatDoorGridin
import Derived.Test.YtmfkpmepgbjmkaaGreatDoorTie
import Derived.Test.YtmfkpmepgbjmkaaGreatDoorCards
import Derived.SevenTiedAt
set_option linter.unusedVariables false
set_option linter.unusedSimpArgs false
namespace Go.Proofs.YtmfkpmepgbjmkaaGreatDoor
open Go.ChangeShapes Go.WideShapes Go.ChangeAt Go.RowKit

set_option maxRecDepth 100000 in
theorem keeps_lifted (os : Os) (started : os.Started) (H : Type) (enc : TypeId × Value → H) :
    ReturnsInHanded {} Tryz.checked os 4 .any (fun w args => (Rows.hermiteKeepsSpec.pre enc Tryz.prog Tryz.f4 [] false w args ∧ laidMetH Tryz.prog LAID w) ∧ sizedMet enc Tryz.prog Tryz.f4 (OpenSpec.ofChange Rows.hermiteKeepsSpec) false w args)
      (Rows.hermiteKeepsSpec.post enc Tryz.prog Tryz.f4 false true false false) := by
  refine returnsInHanded_of_change_and (C := Tryz.checked) (X := fun w _ => laidMetH Tryz.prog LAID w) (fun _ _ _ hh h => h.of_heap hh) Tryz.own started (by kernel_rfl) Tryz.func4
    (ChangeSpec.witness_shaped (enc := enc) (C := Tryz.checked) (os := os) (X := fun w _ => laidMetH Tryz.prog LAID w) false (World.doorLaid Tryz.prog 4000 os) #[.agg (#[.int .u8 0, .int .u8 0] ++ Array.replicate 16 (.int .i8 0)), .int .u8 0, .int .u8 0] 8 rfl (World.shaped_of_RefB (by kernel_rfl) (by kernel_rfl)) (by kernel_rfl) (by kernel_rfl) (by kernel_rfl) (door_met os _)) ?_
  intro W base args ds gs before hval0 hW _ _ hL _
  have hval : ∀ (j : Nat) t v, Tryz.f4.params[j]? = some t → args[j]? = some v → Value.okWide Tryz.prog W .any base t v := hval0
  have hW' := hW
  obtain ⟨p, q, hA0, hV, rfl, hfz, hnd⟩ := hW
  have hA : DataW.TrodAll enc Tryz.prog W 0 (fun _ => true) true Tryz.f4.params.toList args.toList ds p := hA0
  rw [Tryz.params4] at hA hval
  obtain ⟨v0, v1, v2, d0, d1, d2, p0, p1, p2, rfl, rfl, rfl, h0, h1, h2⟩ := trodAll_three hA
  obtain ⟨rfl, rfl⟩ := trodVars_none hV
  have hG := gok_of_laid hL
  have k0 := h0
  obtain ⟨A0, rfl, hs0⟩ := okWide_struct Tryz.underlying25 (hval 0 25 v0 rfl rfl)
  obtain ⟨fuel0, hf0⟩ := h0
  obtain ⟨r0, c0, E0, hM0⟩ := grid_in (hs0.trans (by kernel_rfl)) hf0
  have k1 := h1
  obtain ⟨n1, rfl⟩ := okWide_int Tryz.underlying5 (hval 1 5 v1 rfl rfl)
  obtain ⟨fuel1, hf1⟩ := h1
  obtain ⟨m1, hm1, _, wf1⟩ := DataW.trod_int Tryz.underlying5 hf1
  obtain ⟨b1, rfl, hM1⟩ := u8_of_wf (show (Lit.int .u8 n1).wf = true by
    have e : n1 = m1 := by simpa [Value.cells] using hm1
    rw [e]; exact wf1)
  have k2 := h2
  obtain ⟨n2, rfl⟩ := okWide_int Tryz.underlying5 (hval 2 5 v2 rfl rfl)
  obtain ⟨fuel2, hf2⟩ := h2
  obtain ⟨m2, hm2, _, wf2⟩ := DataW.trod_int Tryz.underlying5 hf2
  obtain ⟨b2, rfl, hM2⟩ := u8_of_wf (show (Lit.int .u8 n2).wf = true by
    have e : n2 = m2 := by simpa [Value.cells] using hm2
    rw [e]; exact wf2)
  clear hA0 hval0
  simp only [List.append_nil] at hW'
  have hlt : ∀ x ∈ p0 ++ p1 ++ p2, x.block < W.heap.size := fun x hx => by simpa using hW'.lt x hx
  refine (keeps_any W _ r0 c0 E0 A0 b1 b2 hM0 hM1 hM2 hG).mono fun e W' ⟨he, bel⟩ => ?_
  subst he
  refine ⟨_, rfl, _, _, _, [], p0 ++ p1 ++ p2, [], hW', ?_, ?_, rfl, bel.frame _, fun h => by cases h⟩
  · exact trodAll_mk1 (shut_bool Tryz.underlying4 true)
  · exact trodAll_mk3' (Below.trod Tryz.laidOut (by kernel_rfl) (of_decide_eq_true (by kernel_rfl)) k0 bel (fun x hx => hlt x (List.mem_append_left _ (List.mem_append_left _ hx)))) (Below.trod Tryz.laidOut (by kernel_rfl) (of_decide_eq_true (by kernel_rfl)) k1 bel (fun x hx => hlt x (List.mem_append_left _ (List.mem_append_right _ hx)))) (Below.trod Tryz.laidOut (by kernel_rfl) (of_decide_eq_true (by kernel_rfl)) k2 bel (fun x hx => hlt x (List.mem_append_right _ hx)))

theorem keeps_holds : Rows.HermiteKeepsSaid :=
  OpenClaim.holds_of_wide 4 Tryz.f4 rfl rfl rfl rfl rfl rfl rfl ⟨rfl, rfl, rfl, rfl, rfl⟩ rfl rfl rfl rfl rfl (by kernel_rfl) Tryz.func4 (by kernel_rfl)
    (of_decide_eq_true (by kernel_rfl)) (by unfold Func.isWrapper; rw [if_neg (of_decide_eq_false (by kernel_rfl))]; exact ⟨rfl, rfl⟩)
    (fun os started H enc _ => keeps_lifted os started H enc)
/-- The tied card. -/
theorem keeps_card : Rows.HermiteKeepsCardSaid :=
  Claim7.holds_tied_plain_at .later [] [.data, .data, .data, .sentinel, .sentinel] true (true, "96e1effa2a6bab4112e303ff1bf22ae5d9cb210981ee7ea62db324c29fd4277c") true
    keeps_holds (fun _ h => by cases h) (by kernel_rfl) (fun _ h => by cases h) hermiteKeeps_row_tie rfl ⟨rfl, rfl⟩ (by kernel_rfl) rfl
    (fun f fn hf hfn => by
      obtain rfl : f = 4 := Option.some.inj ((show Tryz.prog.funcNamed "schisma/schismalaw07.HermiteKeeps" = some 4 by kernel_rfl).symm.trans hf) |>.symm
      obtain rfl : fn = Tryz.f4 := (Option.some.inj (Tryz.func4.symm.trans hfn)).symm
      exact ⟨by kernel_rfl, fun j t ht => by
        rw [Tryz.params4] at ht
        have h3 : t = 25 ∨ t = 5 := by
          rcases j with _ | j
          · simp at ht; simp [ht.symm]
          ·
            rcases j with _ | j
            · simp at ht; simp [ht.symm]
            ·
              rcases j with _ | j
              · simp at ht; simp [ht.symm]
              ·
                simp at ht
        rcases h3 with rfl | rfl
        · exact (show Tryz.prog.wantsStandIn 25 = false by kernel_rfl)
        · exact (show Tryz.prog.wantsStandIn 5 = false by kernel_rfl)⟩)
    (by kernel_rfl)
#print axioms keeps_card
end Go.Proofs.YtmfkpmepgbjmkaaGreatDoor
