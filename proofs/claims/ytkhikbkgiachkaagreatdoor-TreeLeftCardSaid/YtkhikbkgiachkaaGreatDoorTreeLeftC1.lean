/-
  TreeLeft at some of its inputs, run: part 1.
-/
import Derived.Test.YtkhikbkgiachkaaGreatDoorTreeLeftRun
set_option linter.unusedVariables false
set_option linter.unusedSimpArgs false
set_option linter.unnecessarySimpa false
set_option linter.all false
namespace Go.Proofs.YtkhikbkgiachkaaGreatDoor
open Go.RowKit Ev
theorem treeLeft6 : TreeLeftRuns 6 := by unfold TreeLeftRuns; decide +kernel
theorem treeLeft7 : TreeLeftRuns 7 := by unfold TreeLeftRuns; decide +kernel
theorem treeLeft8 : TreeLeftRuns 8 := by unfold TreeLeftRuns; decide +kernel
theorem treeLeft9 : TreeLeftRuns 9 := by unfold TreeLeftRuns; decide +kernel
theorem treeLeft10 : TreeLeftRuns 10 := by unfold TreeLeftRuns; decide +kernel
theorem treeLeft11 : TreeLeftRuns 11 := by unfold TreeLeftRuns; decide +kernel
end Go.Proofs.YtkhikbkgiachkaaGreatDoor
