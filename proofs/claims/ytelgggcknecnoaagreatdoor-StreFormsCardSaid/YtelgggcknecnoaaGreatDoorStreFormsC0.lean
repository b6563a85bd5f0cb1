/-
  StreForms at some of its inputs, run: part 0.
-/
import Derived.Test.YtelgggcknecnoaaGreatDoorStreFormsRun
set_option linter.unusedVariables false
set_option linter.unusedSimpArgs false
set_option linter.unnecessarySimpa false
set_option linter.all false
namespace Go.Proofs.YtelgggcknecnoaaGreatDoor
open Go.RowKit Ev
theorem streForms0 : StreFormsRuns 0 := by unfold StreFormsRuns; decide +kernel
theorem streForms1 : StreFormsRuns 1 := by unfold StreFormsRuns; decide +kernel
theorem streForms2 : StreFormsRuns 2 := by unfold StreFormsRuns; decide +kernel
theorem streForms3 : StreFormsRuns 3 := by unfold StreFormsRuns; decide +kernel
theorem streForms4 : StreFormsRuns 4 := by unfold StreFormsRuns; decide +kernel
theorem streForms5 : StreFormsRuns 5 := by unfold StreFormsRuns; decide +kernel
theorem streForms6 : StreFormsRuns 6 := by unfold StreFormsRuns; decide +kernel
theorem streForms7 : StreFormsRuns 7 := by unfold StreFormsRuns; decide +kernel
end Go.Proofs.YtelgggcknecnoaaGreatDoor
