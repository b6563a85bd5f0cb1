/-
  GrapTags at some of its inputs, run: part 1.
-/
import Derived.Test.YtaicmladpjbjdaaGreatDoorGrapTagsRun
set_option linter.unusedVariables false
set_option linter.unusedSimpArgs false
set_option linter.unnecessarySimpa false
set_option linter.all false
namespace Go.Proofs.YtaicmladpjbjdaaGreatDoor
open Go.RowKit Ev
theorem grapTags2_6 : GrapTagsRuns 2 6 := by unfold GrapTagsRuns; decide +kernel
theorem grapTags3_0 : GrapTagsRuns 3 0 := by unfold GrapTagsRuns; decide +kernel
theorem grapTags3_1 : GrapTagsRuns 3 1 := by unfold GrapTagsRuns; decide +kernel
theorem grapTags3_2 : GrapTagsRuns 3 2 := by unfold GrapTagsRuns; decide +kernel
theorem grapTags3_3 : GrapTagsRuns 3 3 := by unfold GrapTagsRuns; decide +kernel
theorem grapTags3_4 : GrapTagsRuns 3 4 := by unfold GrapTagsRuns; decide +kernel
theorem grapTags3_5 : GrapTagsRuns 3 5 := by unfold GrapTagsRuns; decide +kernel
theorem grapTags3_6 : GrapTagsRuns 3 6 := by unfold GrapTagsRuns; decide +kernel
theorem grapTags4_0 : GrapTagsRuns 4 0 := by unfold GrapTagsRuns; decide +kernel
theorem grapTags4_1 : GrapTagsRuns 4 1 := by unfold GrapTagsRuns; decide +kernel
theorem grapTags4_2 : GrapTagsRuns 4 2 := by unfold GrapTagsRuns; decide +kernel
theorem grapTags4_3 : GrapTagsRuns 4 3 := by unfold GrapTagsRuns; decide +kernel
theorem grapTags4_4 : GrapTagsRuns 4 4 := by unfold GrapTagsRuns; decide +kernel
theorem grapTags4_5 : GrapTagsRuns 4 5 := by unfold GrapTagsRuns; decide +kernel
theorem grapTags4_6 : GrapTagsRuns 4 6 := by unfold GrapTagsRuns; decide +kernel
theorem grapTags5_0 : GrapTagsRuns 5 0 := by unfold GrapTagsRuns; decide +kernel
theorem grapTags5_1 : GrapTagsRuns 5 1 := by unfold GrapTagsRuns; decide +kernel
theorem grapTags5_2 : GrapTagsRuns 5 2 := by unfold GrapTagsRuns; decide +kernel
theorem grapTags5_3 : GrapTagsRuns 5 3 := by unfold GrapTagsRuns; decide +kernel
theorem grapTags5_4 : GrapTagsRuns 5 4 := by unfold GrapTagsRuns; decide +kernel
end Go.Proofs.YtaicmladpjbjdaaGreatDoor
