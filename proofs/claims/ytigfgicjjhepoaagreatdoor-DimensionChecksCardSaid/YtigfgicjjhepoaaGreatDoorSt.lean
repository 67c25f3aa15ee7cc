/- Proved: the statement DimensionChecks (its tied card): for every list of dimensions and every string the law returns true, and its arguments read afterwards as before.
   Conditions: none beyond the row's own (the listed package variables hold what the program's text lays). -/
import Derived.Test.YtigfgicjjhepoaaGreatDoorSs
set_option linter.unusedVariables false
set_option linter.unusedSimpArgs false
namespace Go.Proofs.YtigfgicjjhepoaaGreatDoor.VA
open Go Go.Proofs Go.Proofs.YtigfgicjjhepoaaGreatDoor Go.ChangeShapes Go.WideShapes Go.ChangeAt Go.RowKit

set_option maxRecDepth 100000 in
theorem checks_lifted (os : Os) (started : os.Started) (H : Type) (enc : TypeId × Value → H) :
    ReturnsInHanded {} Tryz.checked os 4 .any (fun w args => (Rows.dimensionChecksSpec.pre enc Pr Tryz.f4 Rows.dimensionChecksRow.domain false w args ∧ laidMetH Pr Rows.dimensionChecksRow.laid w) ∧ sizedMet enc Pr Tryz.f4 (OpenSpec.ofChange Rows.dimensionChecksSpec) false w args)
      (Rows.dimensionChecksSpec.post enc Pr Tryz.f4 false true false false) := by
  refine returnsInHanded_of_change_and (C := Tryz.checked) (X := fun w _ => laidMetH Pr Rows.dimensionChecksRow.laid w) (fun _ _ _ hh h => h.of_heap hh) seat_own started (by kernel_rfl) Tryz.func4
    (ChangeSpec.witness_shaped (enc := enc) (C := Tryz.checked) (os := os) (X := fun w _ => laidMetH Pr Rows.dimensionChecksRow.laid w) false (World.laidAll Pr os Rows.dimensionChecksRow.laid) #[.slice none 0 0, .string .empty] 8 (World.laidAll_os _ _ _)
      (World.shaped_of_ZipB (by kernel_rfl) (by kernel_rfl)) (by kernel_rfl) (by kernel_rfl) (by kernel_rfl)
      (by rw [MakeChecks.laidMetH_plain _ _ _ (by kernel_rfl)]; exact laidMet_laidAll _ (by kernel_rfl) (by kernel_rfl))) ?_
  intro W base args ds gs before hval0 hW hc _ hL _
  have hval : ∀ (j : Nat) t v, Tryz.f4.params[j]? = some t → args[j]? = some v → Value.okWide Pr W .any base t v := hval0
  have hW' := hW
  obtain ⟨p, q, hA0, hV, rfl, _, _⟩ := hW
  have hA : DataW.TrodAll enc Pr W 0 (fun _ => true) true Tryz.f4.params.toList args.toList ds p := hA0
  rw [Tryz.params4] at hA hval
  obtain ⟨v0, v1, d0, d1, p0, p1, rfl, rfl, rfl, h0, h1⟩ := trodAll_two hA
  obtain ⟨l, hl⟩ := dims_open (hval 0 29 v0 rfl rfl) h0
  obtain ⟨s, rfl⟩ := str_open (hval 1 9 v1 rfl rfl) h1
  refine (calls_true Tryz.func4 rfl (by kernel_rfl) (known_checks l s) (Reps.cons hl (Reps.cons (Rep.str s) Reps.nil))).mono ?_
  rintro e W' ⟨rfl, hB⟩
  exact ⟨_, rfl, post_true hW' rfl (fun t ht => by
    rw [Tryz.params4] at ht
    have : t = 29 ∨ t = 9 := by simpa using ht
    rcases this with rfl | rfl
    · exact ⟨by kernel_rfl, of_decide_eq_true (by kernel_rfl)⟩
    · exact ⟨by kernel_rfl, of_decide_eq_true (by kernel_rfl)⟩) rfl rfl hB⟩

theorem checks_holds : Rows.DimensionChecksSaid :=
  OpenClaim.holds_of_wide 4 Tryz.f4 rfl rfl rfl rfl rfl rfl rfl ⟨rfl, rfl, rfl, rfl, rfl⟩ rfl rfl rfl rfl rfl (by kernel_rfl) Tryz.func4 (by kernel_rfl)
    (of_decide_eq_true (by kernel_rfl)) (by unfold Func.isWrapper; first | (rw [if_pos (by decide +kernel)]; kernel_rfl) | (rw [if_neg (by decide +kernel)]; exact ⟨rfl, rfl⟩))
    (fun os started H enc _ => checks_lifted os started H enc)

end Go.Proofs.YtigfgicjjhepoaaGreatDoor.VA
namespace Go.Proofs.YtigfgicjjhepoaaGreatDoor
open Go Go.Proofs Go.Proofs.YtigfgicjjhepoaaGreatDoor
theorem dimensionChecks_card : Rows.DimensionChecksCardSaid :=
  Claim7.holds_tied_plain_at .later [] [.data, .data, .data, .data, .sentinel, .sentinel, .pinned] true (true, "808691b1a07cdfd10c204738a57b7fd92d6b6a39bbbf9a188887552388c6cb5b") true VA.checks_holds (fun _ h => by cases h) (by kernel_rfl) (fun _ h => by cases h) dimensionChecks_row_tie rfl ⟨rfl, rfl⟩ (by kernel_rfl) rfl
    (fun f fn hf hfn => by
      obtain rfl : f = 4 := Option.some.inj ((show Tryz.prog.funcNamed "dowel/dowellaw37.DimensionChecks" = some 4 by kernel_rfl).symm.trans hf) |>.symm
      obtain rfl : fn = Tryz.f4 := (Option.some.inj (Tryz.func4.symm.trans hfn)).symm
      exact ⟨by kernel_rfl, fun j t ht => by
        rw [Tryz.params4] at ht
        have hm : t ∈ [29, 9] := by
          have := Array.mem_of_getElem? ht
          simpa using this
        have hall : ([29, 9].all fun u => !Tryz.prog.wantsStandIn u) = true := by kernel_rfl
        exact (show Tryz.prog.wantsStandIn t = false by simpa using List.all_eq_true.1 hall t hm)⟩)
    (by kernel_rfl)
#print axioms dimensionChecks_card
end Go.Proofs.YtigfgicjjhepoaaGreatDoor
