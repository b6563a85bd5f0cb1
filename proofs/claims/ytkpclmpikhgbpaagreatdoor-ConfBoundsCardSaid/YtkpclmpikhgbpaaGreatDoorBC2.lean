/-
  ConfBounds, run: part 2.
-/
import Derived.Test.YtkpclmpikhgbpaaGreatDoorBRun
set_option linter.unusedVariables false
set_option linter.unusedSimpArgs false
set_option linter.unnecessarySimpa false
set_option linter.all false
namespace Go.Proofs.YtkpclmpikhgbpaaGreatDoor
theorem r1_11 : cbT 1 11 = true := by decide +kernel
theorem r2_0 : cbT 2 0 = true := by decide +kernel
theorem r2_10 : cbT 2 10 = true := by decide +kernel
theorem r2_11 : cbT 2 11 = true := by decide +kernel
end Go.Proofs.YtkpclmpikhgbpaaGreatDoor
