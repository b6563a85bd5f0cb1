/-
  bosketlaw28.awake, run.
-/
import Derived.Test.YtplgalgoplmkfaaGreatDoorTWLow
set_option linter.unusedVariables false
set_option linter.unusedSimpArgs false
set_option linter.unnecessarySimpa false
set_option linter.all false
namespace Go.Proofs.YtplgalgoplmkfaaGreatDoor
theorem awakeRuns : AwakeRuns := by unfold AwakeRuns; decide +kernel
end Go.Proofs.YtplgalgoplmkfaaGreatDoor
