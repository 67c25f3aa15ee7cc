/- Proved: the statement DimensionWithin (its tied card): for every chain, every list of small numbers and either bool the law returns true, and its arguments read afterwards as before.
   Conditions: none beyond the row's own (the listed package variables hold what the program's text lays). -/
import Derived.Test.YtigfgicjjhepoaaGreatDoorMk
import Derived.Test.YtigfgicjjhepoaaGreatDoorMj
set_option linter.unusedVariables false
set_option linter.unusedSimpArgs false
set_option maxRecDepth 100000
namespace Go.Proofs.YtigfgicjjhepoaaGreatDoor.VA
open Go Go.Proofs Go.Proofs.YtigfgicjjhepoaaGreatDoor Go.ChangeShapes Go.WideShapes Go.ChangeAt Go.RowKit

theorem within_lifted (os : Os) (started : os.Started) (H : Type) (enc : TypeId × Value → H) :
    ReturnsInHanded {} Tryz.checked os 5 .any (fun w args => (Rows.dimensionWithinSpec.pre enc Pr Tryz.f5 Rows.dimensionWithinRow.domain false w args ∧ laidMetH Pr Rows.dimensionWithinRow.laid w) ∧ sizedMet enc Pr Tryz.f5 (OpenSpec.ofChange Rows.dimensionWithinSpec) false w args)
      (Rows.dimensionWithinSpec.post enc Pr Tryz.f5 false true false false) := by
  refine returnsInHanded_of_change_and (C := Tryz.checked) (X := fun w _ => laidMetH Pr Rows.dimensionWithinRow.laid w) (fun _ _ _ hh h => h.of_heap hh) seat_own started (by kernel_rfl) Tryz.func5
    (ChangeSpec.witness_shaped (enc := enc) (C := Tryz.checked) (os := os) (X := fun w _ => laidMetH Pr Rows.dimensionWithinRow.laid w) false (World.laidAll Pr os Rows.dimensionWithinRow.laid) #[.agg #[.slice none 0 0], .slice none 0 0, .bool false] 8 (World.laidAll_os _ _ _)
      (World.shaped_of_ZipB (by kernel_rfl) (by kernel_rfl)) (by kernel_rfl) (by kernel_rfl) (by kernel_rfl)
      (by rw [MakeChecks.laidMetH_plain _ _ _ (by kernel_rfl)]; exact laidMet_laidAll _ (by kernel_rfl) (by kernel_rfl))) ?_
  intro W base args ds gs before hval0 hW hc _ hL _
  have hval : ∀ (j : Nat) t v, Tryz.f5.params[j]? = some t → args[j]? = some v → Value.okWide Pr W .any base t v := hval0
  have hW' := hW
  obtain ⟨p, q, hA0, hV, rfl, _, _⟩ := hW
  have hA : DataW.TrodAll enc Pr W 0 (fun _ => true) true Tryz.f5.params.toList args.toList ds p := hA0
  rw [Tryz.params5] at hA hval
  obtain ⟨v0, v1, v2, d0, d1, d2, p0, p1, p2, rfl, rfl, rfl, h0, h1, h2⟩ := trodAll_three hA
  obtain ⟨f, c, hc, hok⟩ := chain_open (hval 0 48 v0 rfl rfl) h0
  obtain ⟨g, ns, hn, hns⟩ := ints_open Tryz.underlying49 Tryz.underlying51 (by kernel_rfl) (hval 1 49 v1 rfl rfl) h1
  obtain ⟨b, hb⟩ := bool_open (hval 2 4 v2 rfl rfl) h2
  refine (calls_true Tryz.func5 rfl (by kernel_rfl) (Known.ofKn (Z.kn_within_law (f := f) (g := g) (b := b) hok (fun n hn => wf_i16 (hns n hn)))) (Reps.cons hc (Reps.cons hn (Reps.cons hb Reps.nil)))).mono ?_
  rintro e W' ⟨rfl, hB⟩
  exact ⟨_, rfl, post_true hW' rfl (fun t ht => by
    rw [Tryz.params5] at ht
    have : t = 48 ∨ t = 49 ∨ t = 4 := by simpa using ht
    rcases this with rfl | rfl | rfl
    · exact ⟨by kernel_rfl, of_decide_eq_true (by kernel_rfl)⟩
    · exact ⟨by kernel_rfl, of_decide_eq_true (by kernel_rfl)⟩
    · exact ⟨by kernel_rfl, of_decide_eq_true (by kernel_rfl)⟩) rfl rfl hB⟩

theorem within_holds : Rows.DimensionWithinSaid :=
  OpenClaim.holds_of_wide 5 Tryz.f5 rfl rfl rfl rfl rfl rfl rfl ⟨rfl, rfl, rfl, rfl, rfl⟩ rfl rfl rfl rfl rfl (by kernel_rfl) Tryz.func5 (by kernel_rfl)
    (of_decide_eq_true (by kernel_rfl)) (by unfold Func.isWrapper; first | (rw [if_pos (by decide +kernel)]; kernel_rfl) | (rw [if_neg (by decide +kernel)]; exact ⟨rfl, rfl⟩))
    (fun os started H enc _ => within_lifted os started H enc)

end Go.Proofs.YtigfgicjjhepoaaGreatDoor.VA
namespace Go.Proofs.YtigfgicjjhepoaaGreatDoor
open Go Go.Proofs Go.Proofs.YtigfgicjjhepoaaGreatDoor
theorem dimensionWithin_card : Rows.DimensionWithinCardSaid :=
  Claim7.holds_tied_plain_at .later [] [.data, .data, .data, .data, .sentinel, .sentinel, .pinned] true (true, "808691b1a07cdfd10c204738a57b7fd92d6b6a39bbbf9a188887552388c6cb5b") true VA.within_holds (fun _ h => by cases h) (by kernel_rfl) (fun _ h => by cases h) dimensionWithin_row_tie rfl ⟨rfl, rfl⟩ (by kernel_rfl) rfl
    (fun f fn hf hfn => by
      obtain rfl : f = 5 := Option.some.inj ((show Tryz.prog.funcNamed "dowel/dowellaw37.DimensionWithin" = some 5 by kernel_rfl).symm.trans hf) |>.symm
      obtain rfl : fn = Tryz.f5 := (Option.some.inj (Tryz.func5.symm.trans hfn)).symm
      exact ⟨by kernel_rfl, fun j t ht => by
        rw [Tryz.params5] at ht
        have hm : t ∈ [48, 49, 4] := by
          have := Array.mem_of_getElem? ht
          simpa using this
        have hall : ([48, 49, 4].all fun u => !Tryz.prog.wantsStandIn u) = true := by kernel_rfl
        exact (show Tryz.prog.wantsStandIn t = false by simpa using List.all_eq_true.1 hall t hm)⟩)
    (by kernel_rfl)
#print axioms dimensionWithin_card
end Go.Proofs.YtigfgicjjhepoaaGreatDoor
