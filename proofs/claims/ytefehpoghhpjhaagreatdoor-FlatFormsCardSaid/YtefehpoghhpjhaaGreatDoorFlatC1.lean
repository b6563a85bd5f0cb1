/-
  FlatForms at its texts number 4 to 7, run.
-/
import Derived.Test.YtefehpoghhpjhaaGreatDoorFlatLow
set_option linter.unusedVariables false
set_option linter.unusedSimpArgs false
set_option linter.unnecessarySimpa false
set_option linter.all false
namespace Go.Proofs.YtefehpoghhpjhaaGreatDoor
theorem form4f : FormRuns 4 false := by unfold FormRuns; decide +kernel
theorem form4t : FormRuns 4 true := by unfold FormRuns; decide +kernel
theorem form5f : FormRuns 5 false := by unfold FormRuns; decide +kernel
theorem form5t : FormRuns 5 true := by unfold FormRuns; decide +kernel
theorem form6f : FormRuns 6 false := by unfold FormRuns; decide +kernel
theorem form6t : FormRuns 6 true := by unfold FormRuns; decide +kernel
theorem form7f : FormRuns 7 false := by unfold FormRuns; decide +kernel
theorem form7t : FormRuns 7 true := by unfold FormRuns; decide +kernel
end Go.Proofs.YtefehpoghhpjhaaGreatDoor
