/-
  StreForms at some of its inputs, run: part 2.
-/
import Derived.Test.YtelgggcknecnoaaGreatDoorStreFormsRun
set_option linter.unusedVariables false
set_option linter.unusedSimpArgs false
set_option linter.unnecessarySimpa false
set_option linter.all false
namespace Go.Proofs.YtelgggcknecnoaaGreatDoor
open Go.RowKit Ev
theorem streForms16 : StreFormsRuns 16 := by unfold StreFormsRuns; decide +kernel
theorem streForms17 : StreFormsRuns 17 := by unfold StreFormsRuns; decide +kernel
theorem streForms18 : StreFormsRuns 18 := by unfold StreFormsRuns; decide +kernel
theorem streForms19 : StreFormsRuns 19 := by unfold StreFormsRuns; decide +kernel
theorem streForms20 : StreFormsRuns 20 := by unfold StreFormsRuns; decide +kernel
theorem streForms21 : StreFormsRuns 21 := by unfold StreFormsRuns; decide +kernel
theorem streForms22 : StreFormsRuns 22 := by unfold StreFormsRuns; decide +kernel
theorem streForms23 : StreFormsRuns 23 := by unfold StreFormsRuns; decide +kernel
end Go.Proofs.YtelgggcknecnoaaGreatDoor
