/-
  ToolConf, run: part 1.
-/
import Derived.Test.YtpflpjkbiopmpaaGreatDoorQRun
set_option linter.unusedVariables false
set_option linter.unusedSimpArgs false
set_option linter.unnecessarySimpa false
set_option linter.all false
namespace Go.Proofs.YtpflpjkbiopmpaaGreatDoor
theorem tc1_01100 : tcT 1 false true true false false = true := by decide +kernel
theorem tc1_01101 : tcT 1 false true true false true = true := by decide +kernel
theorem tc1_01110 : tcT 1 false true true true false = true := by decide +kernel
theorem tc1_01111 : tcT 1 false true true true true = true := by decide +kernel
theorem tc1_10000 : tcT 1 true false false false false = true := by decide +kernel
theorem tc1_10001 : tcT 1 true false false false true = true := by decide +kernel
theorem tc1_10010 : tcT 1 true false false true false = true := by decide +kernel
theorem tc1_10011 : tcT 1 true false false true true = true := by decide +kernel
theorem tc1_10100 : tcT 1 true false true false false = true := by decide +kernel
theorem tc1_10101 : tcT 1 true false true false true = true := by decide +kernel
theorem tc1_10110 : tcT 1 true false true true false = true := by decide +kernel
theorem tc1_10111 : tcT 1 true false true true true = true := by decide +kernel
end Go.Proofs.YtpflpjkbiopmpaaGreatDoor
