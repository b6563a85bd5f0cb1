/-
  GrapTags at some of its inputs, run: part 3.
-/
import Derived.Test.YtaicmladpjbjdaaGreatDoorGrapTagsRun
set_option linter.unusedVariables false
set_option linter.unusedSimpArgs false
set_option linter.unnecessarySimpa false
set_option linter.all false
namespace Go.Proofs.YtaicmladpjbjdaaGreatDoor
open Go.RowKit Ev
theorem grapTags8_4 : GrapTagsRuns 8 4 := by unfold GrapTagsRuns; decide +kernel
theorem grapTags8_5 : GrapTagsRuns 8 5 := by unfold GrapTagsRuns; decide +kernel
theorem grapTags8_6 : GrapTagsRuns 8 6 := by unfold GrapTagsRuns; decide +kernel
theorem grapTags9_0 : GrapTagsRuns 9 0 := by unfold GrapTagsRuns; decide +kernel
theorem grapTags9_1 : GrapTagsRuns 9 1 := by unfold GrapTagsRuns; decide +kernel
theorem grapTags9_2 : GrapTagsRuns 9 2 := by unfold GrapTagsRuns; decide +kernel
theorem grapTags9_3 : GrapTagsRuns 9 3 := by unfold GrapTagsRuns; decide +kernel
theorem grapTags9_4 : GrapTagsRuns 9 4 := by unfold GrapTagsRuns; decide +kernel
theorem grapTags9_5 : GrapTagsRuns 9 5 := by unfold GrapTagsRuns; decide +kernel
theorem grapTags9_6 : GrapTagsRuns 9 6 := by unfold GrapTagsRuns; decide +kernel
end Go.Proofs.YtaicmladpjbjdaaGreatDoor
