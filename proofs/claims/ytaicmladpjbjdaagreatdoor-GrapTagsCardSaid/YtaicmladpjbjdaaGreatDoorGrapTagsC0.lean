/-
  GrapTags at some of its inputs, run: part 0.
-/
import Derived.Test.YtaicmladpjbjdaaGreatDoorGrapTagsRun
set_option linter.unusedVariables false
set_option linter.unusedSimpArgs false
set_option linter.unnecessarySimpa false
set_option linter.all false
namespace Go.Proofs.YtaicmladpjbjdaaGreatDoor
open Go.RowKit Ev
theorem grapTags0_0 : GrapTagsRuns 0 0 := by unfold GrapTagsRuns; decide +kernel
theorem grapTags0_1 : GrapTagsRuns 0 1 := by unfold GrapTagsRuns; decide +kernel
theorem grapTags0_2 : GrapTagsRuns 0 2 := by unfold GrapTagsRuns; decide +kernel
theorem grapTags0_3 : GrapTagsRuns 0 3 := by unfold GrapTagsRuns; decide +kernel
theorem grapTags0_4 : GrapTagsRuns 0 4 := by unfold GrapTagsRuns; decide +kernel
theorem grapTags0_5 : GrapTagsRuns 0 5 := by unfold GrapTagsRuns; decide +kernel
theorem grapTags0_6 : GrapTagsRuns 0 6 := by unfold GrapTagsRuns; decide +kernel
theorem grapTags1_0 : GrapTagsRuns 1 0 := by unfold GrapTagsRuns; decide +kernel
theorem grapTags1_1 : GrapTagsRuns 1 1 := by unfold GrapTagsRuns; decide +kernel
theorem grapTags1_2 : GrapTagsRuns 1 2 := by unfold GrapTagsRuns; decide +kernel
theorem grapTags1_3 : GrapTagsRuns 1 3 := by unfold GrapTagsRuns; decide +kernel
theorem grapTags1_4 : GrapTagsRuns 1 4 := by unfold GrapTagsRuns; decide +kernel
theorem grapTags1_5 : GrapTagsRuns 1 5 := by unfold GrapTagsRuns; decide +kernel
theorem grapTags1_6 : GrapTagsRuns 1 6 := by unfold GrapTagsRuns; decide +kernel
theorem grapTags2_0 : GrapTagsRuns 2 0 := by unfold GrapTagsRuns; decide +kernel
theorem grapTags2_1 : GrapTagsRuns 2 1 := by unfold GrapTagsRuns; decide +kernel
theorem grapTags2_2 : GrapTagsRuns 2 2 := by unfold GrapTagsRuns; decide +kernel
theorem grapTags2_3 : GrapTagsRuns 2 3 := by unfold GrapTagsRuns; decide +kernel
theorem grapTags2_4 : GrapTagsRuns 2 4 := by unfold GrapTagsRuns; decide +kernel
theorem grapTags2_5 : GrapTagsRuns 2 5 := by unfold GrapTagsRuns; decide +kernel
end Go.Proofs.YtaicmladpjbjdaaGreatDoor
