/-
  FlatForms at its texts number 0 to 3, run.
-/
import Derived.Test.YtefehpoghhpjhaaGreatDoorFlatLow
set_option linter.unusedVariables false
set_option linter.unusedSimpArgs false
set_option linter.unnecessarySimpa false
set_option linter.all false
namespace Go.Proofs.YtefehpoghhpjhaaGreatDoor
theorem form0f : FormRuns 0 false := by unfold FormRuns; decide +kernel
theorem form0t : FormRuns 0 true := by unfold FormRuns; decide +kernel
theorem form1f : FormRuns 1 false := by unfold FormRuns; decide +kernel
theorem form1t : FormRuns 1 true := by unfold FormRuns; decide +kernel
theorem form2f : FormRuns 2 false := by unfold FormRuns; decide +kernel
theorem form2t : FormRuns 2 true := by unfold FormRuns; decide +kernel
theorem form3f : FormRuns 3 false := by unfold FormRuns; decide +kernel
theorem form3t : FormRuns 3 true := by unfold FormRuns; decide +kernel
end Go.Proofs.YtefehpoghhpjhaaGreatDoor
