/-
  LeafInner at some of its inputs, run: part 2.
-/
import Derived.Test.YtelgggcknecnoaaGreatDoorLeafInnerRun
set_option linter.unusedVariables false
set_option linter.unusedSimpArgs false
set_option linter.unnecessarySimpa false
set_option linter.all false
namespace Go.Proofs.YtelgggcknecnoaaGreatDoor
open Go.RowKit Ev
theorem leafInner10 : LeafInnerRuns 10 := by unfold LeafInnerRuns; decide +kernel
theorem leafInner11 : LeafInnerRuns 11 := by unfold LeafInnerRuns; decide +kernel
theorem leafInner12 : LeafInnerRuns 12 := by unfold LeafInnerRuns; decide +kernel
end Go.Proofs.YtelgggcknecnoaaGreatDoor
