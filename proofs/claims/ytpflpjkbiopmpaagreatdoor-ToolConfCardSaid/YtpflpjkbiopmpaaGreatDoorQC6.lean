/-
  ToolConf, run: part 6.
-/
import Derived.Test.YtpflpjkbiopmpaaGreatDoorQRun
set_option linter.unusedVariables false
set_option linter.unusedSimpArgs false
set_option linter.unnecessarySimpa false
set_option linter.all false
namespace Go.Proofs.YtpflpjkbiopmpaaGreatDoor
theorem tc3_01000 : tcT 3 false true false false false = true := by decide +kernel
theorem tc3_01001 : tcT 3 false true false false true = true := by decide +kernel
theorem tc3_01010 : tcT 3 false true false true false = true := by decide +kernel
theorem tc3_01011 : tcT 3 false true false true true = true := by decide +kernel
theorem tc3_01100 : tcT 3 false true true false false = true := by decide +kernel
theorem tc3_01101 : tcT 3 false true true false true = true := by decide +kernel
theorem tc3_01110 : tcT 3 false true true true false = true := by decide +kernel
theorem tc3_01111 : tcT 3 false true true true true = true := by decide +kernel
theorem tc3_10000 : tcT 3 true false false false false = true := by decide +kernel
theorem tc3_10001 : tcT 3 true false false false true = true := by decide +kernel
theorem tc3_10010 : tcT 3 true false false true false = true := by decide +kernel
theorem tc3_10011 : tcT 3 true false false true true = true := by decide +kernel
end Go.Proofs.YtpflpjkbiopmpaaGreatDoor
