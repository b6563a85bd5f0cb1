/-
  GrapTags at some of its inputs, run: part 2.
-/
import Derived.Test.YtaicmladpjbjdaaGreatDoorGrapTagsRun
set_option linter.unusedVariables false
set_option linter.unusedSimpArgs false
set_option linter.unnecessarySimpa false
set_option linter.all false
namespace Go.Proofs.YtaicmladpjbjdaaGreatDoor
open Go.RowKit Ev
theorem grapTags5_5 : GrapTagsRuns 5 5 := by unfold GrapTagsRuns; decide +kernel
theorem grapTags5_6 : GrapTagsRuns 5 6 := by unfold GrapTagsRuns; decide +kernel
theorem grapTags6_0 : GrapTagsRuns 6 0 := by unfold GrapTagsRuns; decide +kernel
theorem grapTags6_1 : GrapTagsRuns 6 1 := by unfold GrapTagsRuns; decide +kernel
theorem grapTags6_2 : GrapTagsRuns 6 2 := by unfold GrapTagsRuns; decide +kernel
theorem grapTags6_3 : GrapTagsRuns 6 3 := by unfold GrapTagsRuns; decide +kernel
theorem grapTags6_4 : GrapTagsRuns 6 4 := by unfold GrapTagsRuns; decide +kernel
theorem grapTags6_5 : GrapTagsRuns 6 5 := by unfold GrapTagsRuns; decide +kernel
theorem grapTags6_6 : GrapTagsRuns 6 6 := by unfold GrapTagsRuns; decide +kernel
theorem grapTags7_0 : GrapTagsRuns 7 0 := by unfold GrapTagsRuns; decide +kernel
theorem grapTags7_1 : GrapTagsRuns 7 1 := by unfold GrapTagsRuns; decide +kernel
theorem grapTags7_2 : GrapTagsRuns 7 2 := by unfold GrapTagsRuns; decide +kernel
theorem grapTags7_3 : GrapTagsRuns 7 3 := by unfold GrapTagsRuns; decide +kernel
theorem grapTags7_4 : GrapTagsRuns 7 4 := by unfold GrapTagsRuns; decide +kernel
theorem grapTags7_5 : GrapTagsRuns 7 5 := by unfold GrapTagsRuns; decide +kernel
theorem grapTags7_6 : GrapTagsRuns 7 6 := by unfold GrapTagsRuns; decide +kernel
theorem grapTags8_0 : GrapTagsRuns 8 0 := by unfold GrapTagsRuns; decide +kernel
theorem grapTags8_1 : GrapTagsRuns 8 1 := by unfold GrapTagsRuns; decide +kernel
theorem grapTags8_2 : GrapTagsRuns 8 2 := by unfold GrapTagsRuns; decide +kernel
theorem grapTags8_3 : GrapTagsRuns 8 3 := by unfold GrapTagsRuns; decide +kernel
end Go.Proofs.YtaicmladpjbjdaaGreatDoor
