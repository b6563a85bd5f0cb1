/-
  ToolConf, run: part 8.
-/
import Derived.Test.YtpflpjkbiopmpaaGreatDoorQRun
set_option linter.unusedVariables false
set_option linter.unusedSimpArgs false
set_option linter.unnecessarySimpa false
set_option linter.all false
namespace Go.Proofs.YtpflpjkbiopmpaaGreatDoor
theorem tc4_00000 : tcT 4 false false false false false = true := by decide +kernel
theorem tc4_00001 : tcT 4 false false false false true = true := by decide +kernel
theorem tc4_00010 : tcT 4 false false false true false = true := by decide +kernel
theorem tc4_00011 : tcT 4 false false false true true = true := by decide +kernel
theorem tc4_00100 : tcT 4 false false true false false = true := by decide +kernel
theorem tc4_00101 : tcT 4 false false true false true = true := by decide +kernel
theorem tc4_00110 : tcT 4 false false true true false = true := by decide +kernel
theorem tc4_00111 : tcT 4 false false true true true = true := by decide +kernel
theorem tc4_01000 : tcT 4 false true false false false = true := by decide +kernel
theorem tc4_01001 : tcT 4 false true false false true = true := by decide +kernel
theorem tc4_01010 : tcT 4 false true false true false = true := by decide +kernel
theorem tc4_01011 : tcT 4 false true false true true = true := by decide +kernel
end Go.Proofs.YtpflpjkbiopmpaaGreatDoor
