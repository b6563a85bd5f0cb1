/-
  ToolConf, run: part 5.
-/
import Derived.Test.YtpflpjkbiopmpaaGreatDoorQRun
set_option linter.unusedVariables false
set_option linter.unusedSimpArgs false
set_option linter.unnecessarySimpa false
set_option linter.all false
namespace Go.Proofs.YtpflpjkbiopmpaaGreatDoor
theorem tc2_11100 : tcT 2 true true true false false = true := by decide +kernel
theorem tc2_11101 : tcT 2 true true true false true = true := by decide +kernel
theorem tc2_11110 : tcT 2 true true true true false = true := by decide +kernel
theorem tc2_11111 : tcT 2 true true true true true = true := by decide +kernel
theorem tc3_00000 : tcT 3 false false false false false = true := by decide +kernel
theorem tc3_00001 : tcT 3 false false false false true = true := by decide +kernel
theorem tc3_00010 : tcT 3 false false false true false = true := by decide +kernel
theorem tc3_00011 : tcT 3 false false false true true = true := by decide +kernel
theorem tc3_00100 : tcT 3 false false true false false = true := by decide +kernel
theorem tc3_00101 : tcT 3 false false true false true = true := by decide +kernel
theorem tc3_00110 : tcT 3 false false true true false = true := by decide +kernel
theorem tc3_00111 : tcT 3 false false true true true = true := by decide +kernel
end Go.Proofs.YtpflpjkbiopmpaaGreatDoor
