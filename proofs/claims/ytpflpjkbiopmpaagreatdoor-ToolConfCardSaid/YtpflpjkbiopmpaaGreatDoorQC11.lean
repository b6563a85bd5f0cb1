/-
  ToolConf, run: part 11.
-/
import Derived.Test.YtpflpjkbiopmpaaGreatDoorQRun
set_option linter.unusedVariables false
set_option linter.unusedSimpArgs false
set_option linter.unnecessarySimpa false
set_option linter.all false
namespace Go.Proofs.YtpflpjkbiopmpaaGreatDoor
theorem tc5_00100 : tcT 5 false false true false false = true := by decide +kernel
theorem tc5_00101 : tcT 5 false false true false true = true := by decide +kernel
theorem tc5_00110 : tcT 5 false false true true false = true := by decide +kernel
theorem tc5_00111 : tcT 5 false false true true true = true := by decide +kernel
theorem tc5_01000 : tcT 5 false true false false false = true := by decide +kernel
theorem tc5_01001 : tcT 5 false true false false true = true := by decide +kernel
theorem tc5_01010 : tcT 5 false true false true false = true := by decide +kernel
theorem tc5_01011 : tcT 5 false true false true true = true := by decide +kernel
theorem tc5_01100 : tcT 5 false true true false false = true := by decide +kernel
theorem tc5_01101 : tcT 5 false true true false true = true := by decide +kernel
theorem tc5_01110 : tcT 5 false true true true false = true := by decide +kernel
theorem tc5_01111 : tcT 5 false true true true true = true := by decide +kernel
end Go.Proofs.YtpflpjkbiopmpaaGreatDoor
