/-
  LeafInner at some of its inputs, run: part 1.
-/
import Derived.Test.YtelgggcknecnoaaGreatDoorLeafInnerRun
set_option linter.unusedVariables false
set_option linter.unusedSimpArgs false
set_option linter.unnecessarySimpa false
set_option linter.all false
namespace Go.Proofs.YtelgggcknecnoaaGreatDoor
open Go.RowKit Ev
theorem leafInner5 : LeafInnerRuns 5 := by unfold LeafInnerRuns; decide +kernel
theorem leafInner6 : LeafInnerRuns 6 := by unfold LeafInnerRuns; decide +kernel
theorem leafInner7 : LeafInnerRuns 7 := by unfold LeafInnerRuns; decide +kernel
theorem leafInner8 : LeafInnerRuns 8 := by unfold LeafInnerRuns; decide +kernel
theorem leafInner9 : LeafInnerRuns 9 := by unfold LeafInnerRuns; decide +kernel
end Go.Proofs.YtelgggcknecnoaaGreatDoor
