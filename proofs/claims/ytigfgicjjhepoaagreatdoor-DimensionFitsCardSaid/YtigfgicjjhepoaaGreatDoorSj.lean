/- The row of fits, and its card. -/
import Derived.Test.YtigfgicjjhepoaaGreatDoorSi
set_option linter.unusedVariables false
set_option linter.unusedSimpArgs false
namespace Go.Proofs.YtigfgicjjhepoaaGreatDoor.VA
open Go Go.Proofs Go.Proofs.YtigfgicjjhepoaaGreatDoor Go.ChangeShapes Go.WideShapes Go.ChangeAt Go.RowKit

set_option maxRecDepth 100000 in
theorem fits_lifted (os : Os) (started : os.Started) (H : Type) (enc : TypeId × Value → H) :
    ReturnsInHanded {} Tryz.checked os 3 .any (fun w args => (Rows.dimensionFitsSpec.pre enc Pr Tryz.f3 Rows.dimensionFitsRow.domain false w args ∧ laidMetH Pr Rows.dimensionFitsRow.laid w) ∧ sizedMet enc Pr Tryz.f3 (OpenSpec.ofChange Rows.dimensionFitsSpec) false w args)
      (Rows.dimensionFitsSpec.post enc Pr Tryz.f3 false true false false) := by
  refine returnsInHanded_of_change_and (C := Tryz.checked) (X := fun w _ => laidMetH Pr Rows.dimensionFitsRow.laid w) (fun _ _ _ hh h => h.of_heap hh) seat_own started (by kernel_rfl) Tryz.func3
    (ChangeSpec.witness_shaped (enc := enc) (C := Tryz.checked) (os := os) (X := fun w _ => laidMetH Pr Rows.dimensionFitsRow.laid w) false (World.laidAll Pr os Rows.dimensionFitsRow.laid) #[.agg #[.string .empty, .int .i64 0, .int .i64 0, .int .i64 0], .agg #[.string .empty, .int .i64 0, .int .i64 0, .int .i64 0]] 8 (World.laidAll_os _ _ _)
      (World.shaped_of_ZipB (by kernel_rfl) (by kernel_rfl)) (by kernel_rfl) (by kernel_rfl) (by kernel_rfl)
      (by rw [MakeChecks.laidMetH_plain _ _ _ (by kernel_rfl)]; exact laidMet_laidAll _ (by kernel_rfl) (by kernel_rfl))) ?_
  intro W base args ds gs before hval0 hW hc _ hL _
  have hval : ∀ (j : Nat) t v, Tryz.f3.params[j]? = some t → args[j]? = some v → Value.okWide Pr W .any base t v := hval0
  have hW' := hW
  obtain ⟨p, q, hA0, hV, rfl, _, _⟩ := hW
  have hA : DataW.TrodAll enc Pr W 0 (fun _ => true) true Tryz.f3.params.toList args.toList ds p := hA0
  rw [Tryz.params3] at hA hval
  obtain ⟨v0, v1, d0, d1, p0, p1, rfl, rfl, rfl, h0, h1⟩ := trodAll_two hA
  obtain ⟨s1, a1, b1, c1, rfl⟩ := dim_open (hval 0 23 v0 rfl rfl) h0
  obtain ⟨s2, a2, b2, c2, rfl⟩ := dim_open (hval 1 23 v1 rfl rfl) h1
  refine (calls_true Tryz.func3 rfl (by kernel_rfl) (known_fits s1 s2 a1 b1 c1 a2 b2 c2) (Reps.cons (rep_dim s1 a1 b1 c1) (Reps.cons (rep_dim s2 a2 b2 c2) Reps.nil))).mono ?_
  rintro e W' ⟨rfl, hB⟩
  exact ⟨_, rfl, post_true hW' rfl (fun t ht => by
    rw [Tryz.params3] at ht
    have : t = 23 := by simpa using ht
    subst this
    exact ⟨by kernel_rfl, of_decide_eq_true (by kernel_rfl)⟩) rfl rfl hB⟩

theorem fits_holds : Rows.DimensionFitsSaid :=
  OpenClaim.holds_of_wide 3 Tryz.f3 rfl rfl rfl rfl rfl rfl rfl ⟨rfl, rfl, rfl, rfl, rfl⟩ rfl rfl rfl rfl rfl (by kernel_rfl) Tryz.func3 (by kernel_rfl)
    (of_decide_eq_true (by kernel_rfl)) (by unfold Func.isWrapper; first | (rw [if_pos (by decide +kernel)]; kernel_rfl) | (rw [if_neg (by decide +kernel)]; exact ⟨rfl, rfl⟩))
    (fun os started H enc _ => fits_lifted os started H enc)

end Go.Proofs.YtigfgicjjhepoaaGreatDoor.VA
namespace Go.Proofs.YtigfgicjjhepoaaGreatDoor
open Go Go.Proofs Go.Proofs.YtigfgicjjhepoaaGreatDoor
theorem dimensionFits_card : Rows.DimensionFitsCardSaid :=
  Claim7.holds_tied_plain_at .later [] [.data, .data, .data, .data, .sentinel, .sentinel, .pinned] true (true, "808691b1a07cdfd10c204738a57b7fd92d6b6a39bbbf9a188887552388c6cb5b") true VA.fits_holds (fun _ h => by cases h) (by kernel_rfl) (fun _ h => by cases h) dimensionFits_row_tie rfl ⟨rfl, rfl⟩ (by kernel_rfl) rfl
    (fun f fn hf hfn => by
      obtain rfl : f = 3 := Option.some.inj ((show Tryz.prog.funcNamed "dowel/dowellaw37.DimensionFits" = some 3 by kernel_rfl).symm.trans hf) |>.symm
      obtain rfl : fn = Tryz.f3 := (Option.some.inj (Tryz.func3.symm.trans hfn)).symm
      exact ⟨by kernel_rfl, fun j t ht => by
        rw [Tryz.params3] at ht
        have hm : t ∈ [23] := by
          have := Array.mem_of_getElem? ht
          simpa using this
        have hall : ([23].all fun u => !Tryz.prog.wantsStandIn u) = true := by kernel_rfl
        exact (show Tryz.prog.wantsStandIn t = false by simpa using List.all_eq_true.1 hall t hm)⟩)
    (by kernel_rfl)
#print axioms dimensionFits_card
end Go.Proofs.YtigfgicjjhepoaaGreatDoor
