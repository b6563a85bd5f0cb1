/-
  ToolConf, run: part 0.
-/
import Derived.Test.YtpflpjkbiopmpaaGreatDoorQRun
set_option linter.unusedVariables false
set_option linter.unusedSimpArgs false
set_option linter.unnecessarySimpa false
set_option linter.all false
namespace Go.Proofs.YtpflpjkbiopmpaaGreatDoor
theorem tc_long : tcL = true := by decide +kernel
theorem tc1_00000 : tcT 1 false false false false false = true := by decide +kernel
theorem tc1_00001 : tcT 1 false false false false true = true := by decide +kernel
theorem tc1_00010 : tcT 1 false false false true false = true := by decide +kernel
theorem tc1_00011 : tcT 1 false false false true true = true := by decide +kernel
theorem tc1_00100 : tcT 1 false false true false false = true := by decide +kernel
theorem tc1_00101 : tcT 1 false false true false true = true := by decide +kernel
theorem tc1_00110 : tcT 1 false false true true false = true := by decide +kernel
theorem tc1_00111 : tcT 1 false false true true true = true := by decide +kernel
theorem tc1_01000 : tcT 1 false true false false false = true := by decide +kernel
theorem tc1_01001 : tcT 1 false true false false true = true := by decide +kernel
theorem tc1_01010 : tcT 1 false true false true false = true := by decide +kernel
theorem tc1_01011 : tcT 1 false true false true true = true := by decide +kernel
end Go.Proofs.YtpflpjkbiopmpaaGreatDoor
