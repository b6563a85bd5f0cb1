/-
  bosketlaw28.awake, run.
-/
import Derived.Test.YtpflpjkbiopmpaaGreatDoorQLow
set_option linter.unusedVariables false
set_option linter.unusedSimpArgs false
set_option linter.unnecessarySimpa false
set_option linter.all false
namespace Go.Proofs.YtpflpjkbiopmpaaGreatDoor
theorem awakeRuns : AwakeRuns := by unfold AwakeRuns; decide +kernel
end Go.Proofs.YtpflpjkbiopmpaaGreatDoor
