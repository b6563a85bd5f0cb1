/-
  ToolConf, run: part 4.
-/
import Derived.Test.YtpflpjkbiopmpaaGreatDoorQRun
set_option linter.unusedVariables false
set_option linter.unusedSimpArgs false
set_option linter.unnecessarySimpa false
set_option linter.all false
namespace Go.Proofs.YtpflpjkbiopmpaaGreatDoor
theorem tc2_10000 : tcT 2 true false false false false = true := by decide +kernel
theorem tc2_10001 : tcT 2 true false false false true = true := by decide +kernel
theorem tc2_10010 : tcT 2 true false false true false = true := by decide +kernel
theorem tc2_10011 : tcT 2 true false false true true = true := by decide +kernel
theorem tc2_10100 : tcT 2 true false true false false = true := by decide +kernel
theorem tc2_10101 : tcT 2 true false true false true = true := by decide +kernel
theorem tc2_10110 : tcT 2 true false true true false = true := by decide +kernel
theorem tc2_10111 : tcT 2 true false true true true = true := by decide +kernel
theorem tc2_11000 : tcT 2 true true false false false = true := by decide +kernel
theorem tc2_11001 : tcT 2 true true false false true = true := by decide +kernel
theorem tc2_11010 : tcT 2 true true false true false = true := by decide +kernel
theorem tc2_11011 : tcT 2 true true false true true = true := by decide +kernel
end Go.Proofs.YtpflpjkbiopmpaaGreatDoor
