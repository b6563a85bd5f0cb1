/-
  StreForms at some of its inputs, run: part 1.
-/
import Derived.Test.YtelgggcknecnoaaGreatDoorStreFormsRun
set_option linter.unusedVariables false
set_option linter.unusedSimpArgs false
set_option linter.unnecessarySimpa false
set_option linter.all false
namespace Go.Proofs.YtelgggcknecnoaaGreatDoor
open Go.RowKit Ev
theorem streForms8 : StreFormsRuns 8 := by unfold StreFormsRuns; decide +kernel
theorem streForms9 : StreFormsRuns 9 := by unfold StreFormsRuns; decide +kernel
theorem streForms10 : StreFormsRuns 10 := by unfold StreFormsRuns; decide +kernel
theorem streForms11 : StreFormsRuns 11 := by unfold StreFormsRuns; decide +kernel
theorem streForms12 : StreFormsRuns 12 := by unfold StreFormsRuns; decide +kernel
theorem streForms13 : StreFormsRuns 13 := by unfold StreFormsRuns; decide +kernel
theorem streForms14 : StreFormsRuns 14 := by unfold StreFormsRuns; decide +kernel
theorem streForms15 : StreFormsRuns 15 := by unfold StreFormsRuns; decide +kernel
end Go.Proofs.YtelgggcknecnoaaGreatDoor
