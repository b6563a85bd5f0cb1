/-
  ToolConf, run: part 7.
-/
import Derived.Test.YtpflpjkbiopmpaaGreatDoorQRun
set_option linter.unusedVariables false
set_option linter.unusedSimpArgs false
set_option linter.unnecessarySimpa false
set_option linter.all false
namespace Go.Proofs.YtpflpjkbiopmpaaGreatDoor
theorem tc3_10100 : tcT 3 true false true false false = true := by decide +kernel
theorem tc3_10101 : tcT 3 true false true false true = true := by decide +kernel
theorem tc3_10110 : tcT 3 true false true true false = true := by decide +kernel
theorem tc3_10111 : tcT 3 true false true true true = true := by decide +kernel
theorem tc3_11000 : tcT 3 true true false false false = true := by decide +kernel
theorem tc3_11001 : tcT 3 true true false false true = true := by decide +kernel
theorem tc3_11010 : tcT 3 true true false true false = true := by decide +kernel
theorem tc3_11011 : tcT 3 true true false true true = true := by decide +kernel
theorem tc3_11100 : tcT 3 true true true false false = true := by decide +kernel
theorem tc3_11101 : tcT 3 true true true false true = true := by decide +kernel
theorem tc3_11110 : tcT 3 true true true true false = true := by decide +kernel
theorem tc3_11111 : tcT 3 true true true true true = true := by decide +kernel
end Go.Proofs.YtpflpjkbiopmpaaGreatDoor
