/-
  LeafInner at some of its inputs, run: part 0.
-/
import Derived.Test.YtelgggcknecnoaaGreatDoorLeafInnerRun
set_option linter.unusedVariables false
set_option linter.unusedSimpArgs false
set_option linter.unnecessarySimpa false
set_option linter.all false
namespace Go.Proofs.YtelgggcknecnoaaGreatDoor
open Go.RowKit Ev
theorem leafInner0 : LeafInnerRuns 0 := by unfold LeafInnerRuns; decide +kernel
theorem leafInner1 : LeafInnerRuns 1 := by unfold LeafInnerRuns; decide +kernel
theorem leafInner2 : LeafInnerRuns 2 := by unfold LeafInnerRuns; decide +kernel
theorem leafInner3 : LeafInnerRuns 3 := by unfold LeafInnerRuns; decide +kernel
theorem leafInner4 : LeafInnerRuns 4 := by unfold LeafInnerRuns; decide +kernel
end Go.Proofs.YtelgggcknecnoaaGreatDoor
