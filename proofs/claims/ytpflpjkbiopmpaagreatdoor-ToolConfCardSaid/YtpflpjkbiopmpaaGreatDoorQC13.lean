/-
  ToolConf, run: part 13.
-/
import Derived.Test.YtpflpjkbiopmpaaGreatDoorQRun
set_option linter.unusedVariables false
set_option linter.unusedSimpArgs false
set_option linter.unnecessarySimpa false
set_option linter.all false
namespace Go.Proofs.YtpflpjkbiopmpaaGreatDoor
theorem tc5_11100 : tcT 5 true true true false false = true := by decide +kernel
theorem tc5_11101 : tcT 5 true true true false true = true := by decide +kernel
theorem tc5_11110 : tcT 5 true true true true false = true := by decide +kernel
theorem tc5_11111 : tcT 5 true true true true true = true := by decide +kernel
end Go.Proofs.YtpflpjkbiopmpaaGreatDoor
