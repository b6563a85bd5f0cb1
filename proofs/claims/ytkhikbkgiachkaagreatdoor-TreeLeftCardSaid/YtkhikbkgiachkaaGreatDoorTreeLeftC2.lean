/-
  TreeLeft at some of its inputs, run: part 2.
-/
import Derived.Test.YtkhikbkgiachkaaGreatDoorTreeLeftRun
set_option linter.unusedVariables false
set_option linter.unusedSimpArgs false
set_option linter.unnecessarySimpa false
set_option linter.all false
namespace Go.Proofs.YtkhikbkgiachkaaGreatDoor
open Go.RowKit Ev
theorem treeLeft12 : TreeLeftRuns 12 := by unfold TreeLeftRuns; decide +kernel
theorem treeLeft13 : TreeLeftRuns 13 := by unfold TreeLeftRuns; decide +kernel
theorem treeLeft14 : TreeLeftRuns 14 := by unfold TreeLeftRuns; decide +kernel
theorem treeLeft15 : TreeLeftRuns 15 := by unfold TreeLeftRuns; decide +kernel
theorem treeLeft16 : TreeLeftRuns 16 := by unfold TreeLeftRuns; decide +kernel
theorem treeLeft17 : TreeLeftRuns 17 := by unfold TreeLeftRuns; decide +kernel
end Go.Proofs.YtkhikbkgiachkaaGreatDoor
