/-
  ToolConf, run: part 12.
-/
import Derived.Test.YtpflpjkbiopmpaaGreatDoorQRun
set_option linter.unusedVariables false
set_option linter.unusedSimpArgs false
set_option linter.unnecessarySimpa false
set_option linter.all false
namespace Go.Proofs.YtpflpjkbiopmpaaGreatDoor
theorem tc5_10000 : tcT 5 true false false false false = true := by decide +kernel
theorem tc5_10001 : tcT 5 true false false false true = true := by decide +kernel
theorem tc5_10010 : tcT 5 true false false true false = true := by decide +kernel
theorem tc5_10011 : tcT 5 true false false true true = true := by decide +kernel
theorem tc5_10100 : tcT 5 true false true false false = true := by decide +kernel
theorem tc5_10101 : tcT 5 true false true false true = true := by decide +kernel
theorem tc5_10110 : tcT 5 true false true true false = true := by decide +kernel
theorem tc5_10111 : tcT 5 true false true true true = true := by decide +kernel
theorem tc5_11000 : tcT 5 true true false false false = true := by decide +kernel
theorem tc5_11001 : tcT 5 true true false false true = true := by decide +kernel
theorem tc5_11010 : tcT 5 true true false true false = true := by decide +kernel
theorem tc5_11011 : tcT 5 true true false true true = true := by decide +kernel
end Go.Proofs.YtpflpjkbiopmpaaGreatDoor
