/-
  ConfBounds, run: part 1.
-/
import Derived.Test.YtkpclmpikhgbpaaGreatDoorBRun
set_option linter.unusedVariables false
set_option linter.unusedSimpArgs false
set_option linter.unnecessarySimpa false
set_option linter.all false
namespace Go.Proofs.YtkpclmpikhgbpaaGreatDoor
theorem r0_0 : cbT 0 0 = true := by decide +kernel
theorem r0_10000 : cbT 0 10000 = true := by decide +kernel
theorem r0_10001 : cbT 0 10001 = true := by decide +kernel
theorem r0_10002 : cbT 0 10002 = true := by decide +kernel
theorem r1_0 : cbT 1 0 = true := by decide +kernel
theorem r1_10 : cbT 1 10 = true := by decide +kernel
end Go.Proofs.YtkpclmpikhgbpaaGreatDoor
