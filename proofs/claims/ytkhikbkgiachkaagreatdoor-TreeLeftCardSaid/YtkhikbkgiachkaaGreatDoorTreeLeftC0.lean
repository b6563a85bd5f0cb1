/-
  TreeLeft at some of its inputs, run: part 0.
-/
import Derived.Test.YtkhikbkgiachkaaGreatDoorTreeLeftRun
set_option linter.unusedVariables false
set_option linter.unusedSimpArgs false
set_option linter.unnecessarySimpa false
set_option linter.all false
namespace Go.Proofs.YtkhikbkgiachkaaGreatDoor
open Go.RowKit Ev
theorem treeLeft0 : TreeLeftRuns 0 := by unfold TreeLeftRuns; decide +kernel
theorem treeLeft1 : TreeLeftRuns 1 := by unfold TreeLeftRuns; decide +kernel
theorem treeLeft2 : TreeLeftRuns 2 := by unfold TreeLeftRuns; decide +kernel
theorem treeLeft3 : TreeLeftRuns 3 := by unfold TreeLeftRuns; decide +kernel
theorem treeLeft4 : TreeLeftRuns 4 := by unfold TreeLeftRuns; decide +kernel
theorem treeLeft5 : TreeLeftRuns 5 := by unfold TreeLeftRuns; decide +kernel
end Go.Proofs.YtkhikbkgiachkaaGreatDoor
