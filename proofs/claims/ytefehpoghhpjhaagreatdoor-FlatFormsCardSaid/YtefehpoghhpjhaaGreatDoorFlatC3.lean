/-
  FlatForms at its texts number 12 to 15, run.
-/
import Derived.Test.YtefehpoghhpjhaaGreatDoorFlatLow
set_option linter.unusedVariables false
set_option linter.unusedSimpArgs false
set_option linter.unnecessarySimpa false
set_option linter.all false
namespace Go.Proofs.YtefehpoghhpjhaaGreatDoor
theorem form12f : FormRuns 12 false := by unfold FormRuns; decide +kernel
theorem form12t : FormRuns 12 true := by unfold FormRuns; decide +kernel
theorem form13f : FormRuns 13 false := by unfold FormRuns; decide +kernel
theorem form13t : FormRuns 13 true := by unfold FormRuns; decide +kernel
theorem form14f : FormRuns 14 false := by unfold FormRuns; decide +kernel
theorem form14t : FormRuns 14 true := by unfold FormRuns; decide +kernel
theorem form15f : FormRuns 15 false := by unfold FormRuns; decide +kernel
theorem form15t : FormRuns 15 true := by unfold FormRuns; decide +kernel
end Go.Proofs.YtefehpoghhpjhaaGreatDoor
