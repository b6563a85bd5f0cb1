/-
  ToolConf, run: part 2.
-/
import Derived.Test.YtpflpjkbiopmpaaGreatDoorQRun
set_option linter.unusedVariables false
set_option linter.unusedSimpArgs false
set_option linter.unnecessarySimpa false
set_option linter.all false
namespace Go.Proofs.YtpflpjkbiopmpaaGreatDoor
theorem tc1_11000 : tcT 1 true true false false false = true := by decide +kernel
theorem tc1_11001 : tcT 1 true true false false true = true := by decide +kernel
theorem tc1_11010 : tcT 1 true true false true false = true := by decide +kernel
theorem tc1_11011 : tcT 1 true true false true true = true := by decide +kernel
theorem tc1_11100 : tcT 1 true true true false false = true := by decide +kernel
theorem tc1_11101 : tcT 1 true true true false true = true := by decide +kernel
theorem tc1_11110 : tcT 1 true true true true false = true := by decide +kernel
theorem tc1_11111 : tcT 1 true true true true true = true := by decide +kernel
theorem tc2_00000 : tcT 2 false false false false false = true := by decide +kernel
theorem tc2_00001 : tcT 2 false false false false true = true := by decide +kernel
theorem tc2_00010 : tcT 2 false false false true false = true := by decide +kernel
theorem tc2_00011 : tcT 2 false false false true true = true := by decide +kernel
end Go.Proofs.YtpflpjkbiopmpaaGreatDoor
