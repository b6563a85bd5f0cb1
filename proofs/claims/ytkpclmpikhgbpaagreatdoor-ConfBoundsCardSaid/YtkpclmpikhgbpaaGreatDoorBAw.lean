/-
  bosketlaw21.awake, run.
-/
import Derived.Test.YtkpclmpikhgbpaaGreatDoorBLow
set_option linter.unusedVariables false
set_option linter.unusedSimpArgs false
set_option linter.unnecessarySimpa false
set_option linter.all false
namespace Go.Proofs.YtkpclmpikhgbpaaGreatDoor
theorem awakeRuns : AwakeRuns := by unfold AwakeRuns; decide +kernel
end Go.Proofs.YtkpclmpikhgbpaaGreatDoor
