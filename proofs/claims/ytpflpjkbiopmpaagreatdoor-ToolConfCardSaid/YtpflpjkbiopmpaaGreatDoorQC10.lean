/-
  ToolConf, run: part 10.
-/
import Derived.Test.YtpflpjkbiopmpaaGreatDoorQRun
set_option linter.unusedVariables false
set_option linter.unusedSimpArgs false
set_option linter.unnecessarySimpa false
set_option linter.all false
namespace Go.Proofs.YtpflpjkbiopmpaaGreatDoor
theorem tc4_11000 : tcT 4 true true false false false = true := by decide +kernel
theorem tc4_11001 : tcT 4 true true false false true = true := by decide +kernel
theorem tc4_11010 : tcT 4 true true false true false = true := by decide +kernel
theorem tc4_11011 : tcT 4 true true false true true = true := by decide +kernel
theorem tc4_11100 : tcT 4 true true true false false = true := by decide +kernel
theorem tc4_11101 : tcT 4 true true true false true = true := by decide +kernel
theorem tc4_11110 : tcT 4 true true true true false = true := by decide +kernel
theorem tc4_11111 : tcT 4 true true true true true = true := by decide +kernel
theorem tc5_00000 : tcT 5 false false false false false = true := by decide +kernel
theorem tc5_00001 : tcT 5 false false false false true = true := by decide +kernel
theorem tc5_00010 : tcT 5 false false false true false = true := by decide +kernel
theorem tc5_00011 : tcT 5 false false false true true = true := by decide +kernel
end Go.Proofs.YtpflpjkbiopmpaaGreatDoor
