/-
  ToolConf, run: part 9.
-/
import Derived.Test.YtpflpjkbiopmpaaGreatDoorQRun
set_option linter.unusedVariables false
set_option linter.unusedSimpArgs false
set_option linter.unnecessarySimpa false
set_option linter.all false
namespace Go.Proofs.YtpflpjkbiopmpaaGreatDoor
theorem tc4_01100 : tcT 4 false true true false false = true := by decide +kernel
theorem tc4_01101 : tcT 4 false true true false true = true := by decide +kernel
theorem tc4_01110 : tcT 4 false true true true false = true := by decide +kernel
theorem tc4_01111 : tcT 4 false true true true true = true := by decide +kernel
theorem tc4_10000 : tcT 4 true false false false false = true := by decide +kernel
theorem tc4_10001 : tcT 4 true false false false true = true := by decide +kernel
theorem tc4_10010 : tcT 4 true false false true false = true := by decide +kernel
theorem tc4_10011 : tcT 4 true false false true true = true := by decide +kernel
theorem tc4_10100 : tcT 4 true false true false false = true := by decide +kernel
theorem tc4_10101 : tcT 4 true false true false true = true := by decide +kernel
theorem tc4_10110 : tcT 4 true false true true false = true := by decide +kernel
theorem tc4_10111 : tcT 4 true false true true true = true := by decide +kernel
end Go.Proofs.YtpflpjkbiopmpaaGreatDoor
