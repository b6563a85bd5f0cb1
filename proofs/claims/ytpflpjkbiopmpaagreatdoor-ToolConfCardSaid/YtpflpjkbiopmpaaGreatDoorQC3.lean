/-
  ToolConf, run: part 3.
-/
import Derived.Test.YtpflpjkbiopmpaaGreatDoorQRun
set_option linter.unusedVariables false
set_option linter.unusedSimpArgs false
set_option linter.unnecessarySimpa false
set_option linter.all false
namespace Go.Proofs.YtpflpjkbiopmpaaGreatDoor
theorem tc2_00100 : tcT 2 false false true false false = true := by decide +kernel
theorem tc2_00101 : tcT 2 false false true false true = true := by decide +kernel
theorem tc2_00110 : tcT 2 false false true true false = true := by decide +kernel
theorem tc2_00111 : tcT 2 false false true true true = true := by decide +kernel
theorem tc2_01000 : tcT 2 false true false false false = true := by decide +kernel
theorem tc2_01001 : tcT 2 false true false false true = true := by decide +kernel
theorem tc2_01010 : tcT 2 false true false true false = true := by decide +kernel
theorem tc2_01011 : tcT 2 false true false true true = true := by decide +kernel
theorem tc2_01100 : tcT 2 false true true false false = true := by decide +kernel
theorem tc2_01101 : tcT 2 false true true false true = true := by decide +kernel
theorem tc2_01110 : tcT 2 false true true true false = true := by decide +kernel
theorem tc2_01111 : tcT 2 false true true true true = true := by decide +kernel
end Go.Proofs.YtpflpjkbiopmpaaGreatDoor
