/-
  FlatForms at its texts number 8 to 11, run.
-/
import Derived.Test.YtefehpoghhpjhaaGreatDoorFlatLow
set_option linter.unusedVariables false
set_option linter.unusedSimpArgs false
set_option linter.unnecessarySimpa false
set_option linter.all false
namespace Go.Proofs.YtefehpoghhpjhaaGreatDoor
theorem form8f : FormRuns 8 false := by unfold FormRuns; decide +kernel
theorem form8t : FormRuns 8 true := by unfold FormRuns; decide +kernel
theorem form9f : FormRuns 9 false := by unfold FormRuns; decide +kernel
theorem form9t : FormRuns 9 true := by unfold FormRuns; decide +kernel
theorem form10f : FormRuns 10 false := by unfold FormRuns; decide +kernel
theorem form10t : FormRuns 10 true := by unfold FormRuns; decide +kernel
theorem form11f : FormRuns 11 false := by unfold FormRuns; decide +kernel
theorem form11t : FormRuns 11 true := by unfold FormRuns; decide +kernel
end Go.Proofs.YtefehpoghhpjhaaGreatDoor
